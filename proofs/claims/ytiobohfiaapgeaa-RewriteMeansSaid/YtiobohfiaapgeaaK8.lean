/- Texts ST SU SV SX TDV SW SY EQ SZ RWM TVB RWMV of this claim, one behind the other. -/
import Derived.Test.YtiobohfiaapgeaaK7
section
namespace Go.Proofs.Ytiobohfiaapgeaa
set_option maxRecDepth 100000
set_option maxHeartbeats 4000000
section
variable {H : AHeap} {w dn g : Nat} {most : Int} {ns : List Nd} {F : List Nat} {e : Int}
theorem mul_words {ns : List Nd} {look : ByteArray → Option Vl} (gk : Gok ns) (hA : AllFit look ns) {n : Nd} (hf : formedF ns.length n = true) (hs : (sortedF ns n).2 = 0) (h20 : n.op = 20) : ∃ N : Nat, 1 ≤ N ∧ N ≤ 128 ∧ ∃ x y : BitVec N, V look ns n.a = Vl.of x ∧ V look ns n.b = Vl.of y := by
  have F := node_fit gk hA hf hs (by omega) (by omega)
  rw [kidsV_2 (by rw [h20]; decide)] at F
  obtain ⟨l, hl⟩ : ∃ l, l = [V look ns n.a, V look ns n.b] := ⟨_, rfl⟩
  obtain ⟨s, hs⟩ : ∃ s, s = (sortedF ns n).1.sort := ⟨_, rfl⟩
  rw [← hl, ← hs] at F
  cases F with
  | word N x y r1 r2 =>
    injection hl with e1 e2
    injection e2 with e2
    exact ⟨N, r1, r2, x, y, e1.symm, e2.symm⟩
  | _ => omega
theorem logic_ops {ns : List Nd} {n : Nd} {c : Ch} (h : logicF ns n = some c) : 4 ≤ n.op ∧ n.op ≤ 8 := by
  unfold logicF at h
  split at h
  · cases h
  · omega
theorem wtwo_run {f : Nat} (hC : NormC f) (h : WG H w dn g most ns F 0) (gk : Gok ns) {n : Nd} (hf : formedF ns.length n = true) (hs : (sortedF ns n).2 = 0) (har : arity n.op = 2) (hne : (exF most f ns n (binC ns n)).2.2 ≠ -1) {r : Option (AV × AHeap)}
    (hr : R Zbr [.ptr w 0, .agg n.cs] H = r) : Wv H w dn g most F (exF most f ns n (binC ns n)) r := by
  rw [Zga] at hr
  have hself := h.self
  have hlo := h.lo
  have k1 : Keeps H (H.new (.cells n.cs)) := (Keeps.refl H).new' _
  have h1 : ¬ n.op = 1 := fun hh => by rw [hh] at har; revert har; decide
  have h2 : ¬ n.op = 2 := fun hh => by rw [hh] at har; revert har; decide
  obtain ⟨look, hA⟩ := look_any gk
  have PB := bin_val gk hA hf hs h1 h2 har
  have pth : pathF ns n = binC ns n := by unfold pathF; rw [if_neg (by omega), if_neg (by omega), if_neg (by omega)]
  have pos : (exF most f ns n (binC ns n)).2.2 = 0 → 0 < (exF most f ns n (binC ns n)).2.1 := fun h0 => by
    rw [← pth, ← normF_ex] at hne h0 ⊢
    have := ((norm_val (f + 1) gk hf hs h1 h2 hne).1 h0).lo
    omega
  cases hfo : foldF ns n with
  | some v =>
    rw [show binC ns n = .con v by unfold binC; rw [hfo]]
    have hX := fun (r' : Option (AV × AHeap)) => fold_up (f := f) h (by omega) hfo k1 (r := r')
    simp only [Nd.parts'] at hr hX
    simp (maxDischargeDepth := 40) [Zbj] at hr
    generalize hA : R Zy _ _ = q at hr
    obtain ⟨id, H2, e, rfl, o2, l2, hid, hW⟩ := hX _ hA
    by_cases c : 0 < id
    · simp (maxDischargeDepth := 40) [c] at hr
      rw [← hr]; exact hW
    · have := hid c
      simp (maxDischargeDepth := 40) [c, o2, this] at hr
      rw [← hr]; exact hW
  | none =>
    have hX := fold_no h (by omega) hfo k1
    have ob := arity_bound (op := n.op) (by omega)
    have t1 := tb1 (op := n.op) (by omega) (by omega)
    have t2 := tb2 (op := n.op) (by omega) (by omega)
    have t4 := tb4 (op := n.op) (by omega) (by omega)
    have hz := zero_run (h.keeps k1) (n := n)
    have hb := fun H => bool_run (b := true) (H := H)
    have co := fun (v : Vl) (H1 : AHeap) (k : Keeps H H1) (r : Option (AV × AHeap)) (hr : R Zh [.ptr w 0, .agg [.int .i64 v.w, u (lo v.n), u (hi v.n)]] H1 = r) => con_up (f := f) (n := n) h k hr
    have hlg := fun (P : ∀ c, logicF ns n = some c → PV look ns n c ∧ (exF most f ns n c).2.2 ≠ -1) (r : Option (AV × AHeap)) => wlogic_run hC (h.keeps k1) gk P (r := r)
    have hbd := fun (hd) (r : Option (AV × AHeap)) => beside_run (f := f) (h.keeps k1) (n := n) (by omega) (by omega) hd (r := r)
    have hbe := fun (H2 : AHeap) (ns2 : List Nd) (F2 : List Nat) (e2 : Int) (g2 : WG H2 w dn g most ns2 F2 e2) (he : ¬ e2 = 0) (h4 : 4 ≤ n.op) (h8 : n.op ≤ 8) (r : Option (AV × AHeap)) => beside_err g2 he (n := n) h4 h8 (r := r)
    have hdb : n.op = 20 → binC ns n = doubleF ns n → ∀ H1, Keeps (H.new (.cells n.cs)) H1 → ∀ r, R Z5 [.ptr w 0, .agg n.cs] H1 = r → ∃ id H2, r = some (.int .i64 id, H2) ∧ Wv (H.new (.cells n.cs)) w dn g most F (exF most f ns n (doubleF ns n)) (some (back [] (H.new (.cells n.cs)) (.int .i64 id) H2)) := fun h20 hB H1 k r hr => by
      obtain ⟨N, N1, N2, x, y, ha, hb⟩ := mul_words gk hA hf hs h20
      rw [hB] at PB hne
      exact Wv.up (h.keeps k1) k (doubled_run hC ((h.keeps k1).keeps k) gk N1 N2 hA ha hb PB hne hr)
    simp only [Nd.parts'] at hr hX k1 hz hlg hbd hbe hdb
    have hbin0 : binC ns n = (if n.a = n.b ∧ (n.op = 4 ∨ n.op = 5 ∨ n.op = 12 ∨ n.op = 13) then .at n.a
    else if n.a = n.b ∧ (n.op = 6 ∨ n.op = 29 ∨ n.op = 31 ∨ n.op = 33 ∨ n.op = 35 ∨ n.op = 14 ∨ n.op = 19) then .con (if n.op = 14 ∨ n.op = 19 then ⟨(ndF ns n.a).sort, 0#128⟩ else Vl.bool false)
    else if n.a = n.b ∧ (n.op = 8 ∨ n.op = 30 ∨ n.op = 32 ∨ n.op = 34 ∨ n.op = 36 ∨ n.op = 7) then .con (Vl.bool true)
    else match logicF ns n with
      | some c => c
      | none => besideF ns n) := by
      unfold binC
      rw [hfo]
      rfl
    by_cases cab : n.a = n.b
    · have eab := eq_true cab
      by_cases c1 : n.op = 4 ∨ n.op = 5 ∨ n.op = 12 ∨ n.op = 13
      · have z1 : ¬ tbit n.op 1 = 0 := fun hh => t1.1 hh c1
        rw [hbin0, if_pos ⟨cab, c1⟩]
        simp (maxDischargeDepth := 40) [Zbj, hself, hlo, hX, tags_run, eab, z1] at hr
        rw [← hr]
        exact Wv.stay h _
      have z1 := t1.2 c1
      rw [if_neg (fun hh => c1 hh.2)] at hbin0
      by_cases c2 : n.op = 6 ∨ n.op = 29 ∨ n.op = 31 ∨ n.op = 33 ∨ n.op = 35 ∨ n.op = 14 ∨ n.op = 19
      · have z2 : ¬ tbit n.op 2 = 0 := fun hh => t2.1 hh c2
        rw [hbin0, if_pos ⟨cab, c2⟩]
        obtain ⟨zv, hzv⟩ : ∃ zv, zv = (if n.op = 14 ∨ n.op = 19 then (⟨(ndF ns n.a).sort, 0#128⟩ : Vl) else Vl.bool false) := ⟨_, rfl⟩
        have hz2 : AV.agg [.int .i64 (if n.op = 14 ∨ n.op = 19 then (ndF ns n.a).sort else 0), u 0#64, u 0#64] = .agg [.int .i64 zv.w, u (lo zv.n), u (hi zv.n)] := by
          rw [hzv]
          by_cases c : n.op = 14 ∨ n.op = 19
          · rw [if_pos c, if_pos c]
            simp only [show lo (0#128 : W128) = 0#64 from rfl, show hi (0#128 : W128) = 0#64 from rfl]
          · rw [if_neg c, if_neg c]
            simp only [Vl.bool, Bool.false_eq_true, if_false, show lo (0#128 : W128) = 0#64 from rfl, show hi (0#128 : W128) = 0#64 from rfl]
        rw [hz2] at hz
        rw [← hzv]
        simp (maxDischargeDepth := 40) [Zbj, hself, hlo, hX, tags_run, eab, z1, z2, hz] at hr
        generalize hA : R Zh _ _ = q at hr
        obtain ⟨id, H2, rfl, hW⟩ := co zv _ k1 _ hA
        simp at hr
        rw [← hr]
        exact hW
      have z2 := t2.2 c2
      rw [if_neg (fun hh => c2 hh.2)] at hbin0
      by_cases c4 : n.op = 8 ∨ n.op = 30 ∨ n.op = 32 ∨ n.op = 34 ∨ n.op = 36 ∨ n.op = 7
      · have z4 : ¬ tbit n.op 4 = 0 := fun hh => t4.1 hh c4
        rw [hbin0, if_pos ⟨cab, c4⟩]
        simp (maxDischargeDepth := 40) [Zbj, hself, hlo, hX, tags_run, eab, z1, z2, z4, hb] at hr
        generalize hA : R Zh _ _ = q at hr
        obtain ⟨id, H2, rfl, hW⟩ := co (Vl.bool true) _ k1 _ hA
        simp at hr
        rw [← hr]
        exact hW
      have z4 := t4.2 c4
      rw [if_neg (fun hh => c4 hh.2)] at hbin0
      have hbin := hbin0
      simp (maxDischargeDepth := 40) [Zbj, hself, hlo, hX, tags_run, eab, z1, z2, z4] at hr
      generalize hL : R Zbm _ _ = q at hr
      have hW := hlg (fun c hc => by rw [hbin, hc] at PB hne; exact ⟨PB, hne⟩) _ hL
      cases hlc : logicF ns n with
      | none =>
        rw [hlc] at hW hbin
        simp only at hW hbin
        subst hW
        simp (maxDischargeDepth := 40) at hr
        generalize hB : R Zz _ _ = q at hr
        have hW := hbd (fun h20 hB => hdb h20 (hbin.trans hB)) _ hB
        obtain ⟨id, H2, rfl, hW2⟩ := Wv.up h k1 hW
        simp at hr
        rw [hbin, ← hr]
        exact hW2
      | some c =>
        obtain ⟨l4, l8⟩ := logic_ops hlc
        rw [hlc] at hW hbin
        simp only at hW hbin
        rw [← hbin] at hW
        obtain ⟨id', H2', e1, hW2⟩ := Wv.up h k1 hW
        obtain ⟨H2, F2, ns2, id, e2, rfl, g2, k2, n2, ok, bad⟩ := hW
        cases e1
        by_cases c0 : 0 < id'
        · simp (maxDischargeDepth := 40) [c0] at hr
          rw [← hr]
          exact hW2
        · have he : ¬ (exF most f ns n (binC ns n)).2.2 = 0 := fun h0 => c0 (by rw [(ok h0).2.1]; exact pos h0)
          have hb := bad he
          have hnF : H.size ∉ w :: F := fun hp => by
            rcases List.mem_cons.1 hp with hp | hp
            · omega
            · have := h.G.ltF hp; omega
          have hob : H2'.obj H.size = .cells [.int .i64 n.op, .int .i64 n.sort, .int .i64 n.a, .int .i64 n.b, .int .i64 n.c, .int .i64 n.p, .int .i64 n.q, .int .i64 n.vw, u n.vl, u n.vh, .str n.name] := by rw [k2.obj _ (by simp) hnF]; simp
          have hl1 : H.size < H2'.size := by have := k2.size; simp at this; omega
          simp (maxDischargeDepth := 40) [c0, hob] at hr
          generalize hB : R Zz _ _ = q at hr
          obtain ⟨id3, H3, rfl, F3, ns3, g3, k3, n3⟩ := hbe H2' ns2 F2 e2 g2 (by rw [hb]; exact he) l4 l8 _ hB
          simp at hr
          have s1 := k1.size
          have s2 := k2.size
          have nn : ∀ p, p ∈ F2 → p ∈ F ∨ H.size ≤ p := fun p hp => by
            rcases n2 p hp with h | h
            · exact .inl h
            · exact .inr (by omega)
          have k13 : Fr (w :: F) H H3 := ((k1.fr _).trans k2 fun p hp => .inl hp).trans k3 fun p hp => by
            rcases List.mem_cons.1 hp with rfl | hp
            · exact .inl (by simp)
            · rcases nn p hp with h | h
              · exact .inl (by simp [h])
              · exact .inr h
          obtain ⟨D, hD, g4, k4⟩ := h.back g3 k13 id3
          rw [hD] at hr
          refine ⟨D, F3, ns3, id3, e2, hr.symm, g4, k4, fun p hp => ?_, fun h0 => absurd h0 he, fun _ => hb⟩
          rcases n3 p hp with h | h
          · exact nn p h
          · exact .inr (by omega)
    · rw [if_neg (fun hh => cab hh.1), if_neg (fun hh => cab hh.1), if_neg (fun hh => cab hh.1)] at hbin0
      have hbin := hbin0
      simp (maxDischargeDepth := 40) [Zbj, hself, hlo, hX, tags_run, cab] at hr
      generalize hL : R Zbm _ _ = q at hr
      have hW := hlg (fun c hc => by rw [hbin, hc] at PB hne; exact ⟨PB, hne⟩) _ hL
      cases hlc : logicF ns n with
      | none =>
        rw [hlc] at hW hbin
        simp only at hW hbin
        subst hW
        simp (maxDischargeDepth := 40) at hr
        generalize hB : R Zz _ _ = q at hr
        have hW := hbd (fun h20 hB => hdb h20 (hbin.trans hB)) _ hB
        obtain ⟨id, H2, rfl, hW2⟩ := Wv.up h k1 hW
        simp at hr
        rw [hbin, ← hr]
        exact hW2
      | some c =>
        obtain ⟨l4, l8⟩ := logic_ops hlc
        rw [hlc] at hW hbin
        simp only at hW hbin
        rw [← hbin] at hW
        obtain ⟨id', H2', e1, hW2⟩ := Wv.up h k1 hW
        obtain ⟨H2, F2, ns2, id, e2, rfl, g2, k2, n2, ok, bad⟩ := hW
        cases e1
        by_cases c0 : 0 < id'
        · simp (maxDischargeDepth := 40) [c0] at hr
          rw [← hr]
          exact hW2
        · have he : ¬ (exF most f ns n (binC ns n)).2.2 = 0 := fun h0 => c0 (by rw [(ok h0).2.1]; exact pos h0)
          have hb := bad he
          have hnF : H.size ∉ w :: F := fun hp => by
            rcases List.mem_cons.1 hp with hp | hp
            · omega
            · have := h.G.ltF hp; omega
          have hob : H2'.obj H.size = .cells [.int .i64 n.op, .int .i64 n.sort, .int .i64 n.a, .int .i64 n.b, .int .i64 n.c, .int .i64 n.p, .int .i64 n.q, .int .i64 n.vw, u n.vl, u n.vh, .str n.name] := by rw [k2.obj _ (by simp) hnF]; simp
          have hl1 : H.size < H2'.size := by have := k2.size; simp at this; omega
          simp (maxDischargeDepth := 40) [c0, hob] at hr
          generalize hB : R Zz _ _ = q at hr
          obtain ⟨id3, H3, rfl, F3, ns3, g3, k3, n3⟩ := hbe H2' ns2 F2 e2 g2 (by rw [hb]; exact he) l4 l8 _ hB
          simp at hr
          have s1 := k1.size
          have s2 := k2.size
          have nn : ∀ p, p ∈ F2 → p ∈ F ∨ H.size ≤ p := fun p hp => by
            rcases n2 p hp with h | h
            · exact .inl h
            · exact .inr (by omega)
          have k13 : Fr (w :: F) H H3 := ((k1.fr _).trans k2 fun p hp => .inl hp).trans k3 fun p hp => by
            rcases List.mem_cons.1 hp with rfl | hp
            · exact .inl (by simp)
            · rcases nn p hp with h | h
              · exact .inl (by simp [h])
              · exact .inr h
          obtain ⟨D, hD, g4, k4⟩ := h.back g3 k13 id3
          rw [hD] at hr
          refine ⟨D, F3, ns3, id3, e2, hr.symm, g4, k4, fun p hp => ?_, fun h0 => absurd h0 he, fun _ => hb⟩
          rcases n3 p hp with h | h
          · exact nn p h
          · exact .inr (by omega)
theorem norm_runs (f : Nat) : NormC f := by
  induction f with
  | zero =>
    unfold NormC
    intro H w dn g most ns F n r h gk hf hs hne hr
    exact absurd rfl hne
  | succ f hC =>
    unfold NormC
    intro H w dn g most ns F n r h gk hf hs hne hr
    rw [normF_ex] at hne ⊢
    rw [Zef] at hr
    have hself := h.self
    have hlo := h.lo
    have k1 : Keeps H (H.new (.cells n.cs)) := (Keeps.refl H).new' _
    have har := fun H => arity_run (op := n.op) (H := H)
    have h0 := (formed_arity hf).2
    have h3 := arity_le n.op
    have a12 : n.op = 1 ∨ n.op = 2 → arity n.op = 0 := fun hh => by rcases hh with hh | hh <;> rw [hh] <;> decide
    unfold pathF at hne ⊢
    have mk := fun (r : Option (AV × AHeap)) (hr : R Zg [.ptr w 0, .agg n.cs] (H.new (.cells n.cs)) = r) => mk_up (f := f) h k1 hr
    have one := fun (ha : arity n.op = 1) (hne : (exF most f ns n (unC ns n)).2.2 ≠ -1) (r : Option (AV × AHeap)) (hr : R Zbi [.ptr w 0, .agg n.cs] (H.new (.cells n.cs)) = r) => Wv.up h k1 (wone_run hC (h.keeps k1) gk hf hs (fun hh => by have := a12 (.inl hh); omega) (fun hh => by have := a12 (.inr hh); omega) ha hne hr)
    have cho := fun (r : Option (AV × AHeap)) (hr : R Zbk [.ptr w 0, .agg n.cs] (H.new (.cells n.cs)) = r) => Wv.up h k1 (choice_run (f := f) (h.keeps k1) hr)
    have two := fun (ha : arity n.op = 2) (hne : (exF most f ns n (binC ns n)).2.2 ≠ -1) (r : Option (AV × AHeap)) (hr : R Zbr [.ptr w 0, .agg n.cs] (H.new (.cells n.cs)) = r) => Wv.up h k1 (wtwo_run hC (h.keeps k1) gk hf hs ha hne hr)
    simp only [Nd.parts'] at hr mk one cho two
    by_cases c0 : arity n.op = 0
    · have e0 := eq_true c0
      rw [if_pos c0]
      simp (maxDischargeDepth := 40) [Zbp, hself, hlo, har, e0] at hr
      generalize hA : R Zg _ _ = q at hr
      obtain ⟨id, H2, rfl, hW⟩ := mk _ hA
      simp at hr
      rw [← hr]
      exact hW
    rw [if_neg c0] at hne ⊢
    by_cases c1 : arity n.op = 1
    · have e1 := eq_true c1
      rw [if_pos c1] at hne ⊢
      simp (maxDischargeDepth := 40) [Zbp, hself, hlo, har, c0, e1] at hr
      generalize hA : R Zbi _ _ = q at hr
      obtain ⟨id, H2, rfl, hW⟩ := one c1 hne _ hA
      simp at hr
      rw [← hr]
      exact hW
    rw [if_neg c1] at hne ⊢
    by_cases c3 : arity n.op = 3
    · have e3 := eq_true c3
      rw [if_pos c3] at hne ⊢
      simp (maxDischargeDepth := 40) [Zbp, hself, hlo, har, c0, c1, e3] at hr
      generalize hA : R Zbk _ _ = q at hr
      obtain ⟨id, H2, rfl, hW⟩ := cho _ hA
      simp at hr
      rw [← hr]
      exact hW
    rw [if_neg c3] at hne ⊢
    simp (maxDischargeDepth := 40) [Zbp, hself, hlo, har, c0, c1, c3] at hr
    generalize hA : R Zbr _ _ = q at hr
    obtain ⟨id, H2, rfl, hW⟩ := two (by omega) hne _ hA
    simp at hr
    rw [← hr]
    exact hW
end
end Go.Proofs.Ytiobohfiaapgeaa
end
section
namespace Go.Proofs.Ytiobohfiaapgeaa
set_option maxRecDepth 100000
theorem findE_snoc (k : AV) : ∀ (es : List AEnt) (e : AEnt), findE k (es ++ [e]) = (findE k es).or (if keyEq k e.key = true then some e else none)
  | [], e => by simp [findE]
  | x :: es, e => by
    simp only [List.cons_append, findE]
    by_cases h : keyEq k x.key = true
    · simp [h]
    · rw [if_neg h, if_neg h]; exact findE_snoc k es e
theorem key_int {k j : Int} : keyEq (.int .i64 k) (.int .i64 j) = decide (k = j) := by
  simp only [keyEq, scEq]
  by_cases h : k = j <;> simp [h]
def IM (es : List AEnt) (f : Int → Option Int) : Prop := (∀ k, (findE (.int .i64 k) es).map (·.val) = (f k).map (.int .i64 ·)) ∧ ∀ x, x ∈ es → ∃ j, x.key = .int .i64 j
theorem IM.nil : IM [] fun _ => none := ⟨fun k => by simp [findE], fun x hx => by cases hx⟩
theorem IM.add {es : List AEnt} {f : Int → Option Int} (h : IM es f) {k v : Int} {c : Nat} (hk : f k = none) : IM (es ++ [⟨.int .i64 k, .int .i64 v, c⟩]) (fun x => if x = k then some v else f x) := by
  refine ⟨fun x => ?_, fun x hx => ?_⟩
  · rw [findE_snoc, key_int]
    have h1 := h.1 x
    by_cases e : x = k
    · subst e
      rw [hk] at h1
      cases hf : findE (.int .i64 x) es with
      | none => simp
      | some y => rw [hf] at h1; simp at h1
    · show _ = ((if x = k then some v else f x) : Option Int).map _
      rw [if_neg e]
      cases hf : findE (.int .i64 x) es with
      | none => rw [hf] at h1; simpa [e] using h1
      | some y => rw [hf] at h1; simpa using h1
  · rcases List.mem_append.1 hx with h1 | h1
    · exact h.2 x h1
    · simp at h1; exact ⟨k, by rw [h1]⟩
theorem IM.find {es : List AEnt} {f : Int → Option Int} (h : IM es f) (k : Int) : (f k = none ∧ findE (.int .i64 k) es = none) ∨ ∃ v x, f k = some v ∧ findE (.int .i64 k) es = some x ∧ x.val = .int .i64 v := by
  have h1 := h.1 k
  cases hf : findE (.int .i64 k) es <;> cases hl : f k <;> rw [hf, hl] at h1 <;> first | (cases h1; done) | skip
  · exact .inl ⟨rfl, rfl⟩
  · exact .inr ⟨_, _, rfl, rfl, by simpa using h1⟩
theorem findE_set {k v : Int} : ∀ {es : List AEnt}, (∀ x, x ∈ es → ∃ j, x.key = .int .i64 j) → findE (.int .i64 k) es ≠ none → ∀ j : Int, (findE (.int .i64 j) (setE (.int .i64 k) (.int .i64 v) es)).map (·.val) = if j = k then some (.int .i64 v) else (findE (.int .i64 j) es).map (·.val)
  | [], _, h, _ => by simp [findE] at h
  | e :: es, hk, h, j => by
    obtain ⟨i, hi⟩ := hk e (by simp)
    unfold setE
    by_cases c : k = i
    · subst c
      rw [if_pos (by rw [hi, key_int]; simp)]
      unfold findE
      by_cases d : j = k
      · simp [d, key_int]
      · simp [d, key_int, hi]
    · rw [if_neg (by rw [hi, key_int]; simpa using c)]
      unfold findE at h
      rw [if_neg (by rw [hi, key_int]; simpa using c)] at h
      have ih := findE_set (v := v) (fun x hx => hk x (by simp [hx])) h j
      unfold findE
      by_cases d : j = i
      · subst d
        simp [hi, key_int]
        intro e; exact absurd e.symm c
      · have hd : ¬ keyEq (.int .i64 j) e.key = true := by rw [hi, key_int]; simpa using d
        simp only [if_neg hd]
        exact ih
theorem IM.look {es : List AEnt} {f : Int → Option Int} (h : IM es f) (k : Int) : lookU false (.int .i64 0) (findE (.int .i64 k) es) = .int .i64 ((f k).getD 0) := by
  rcases h.find k with ⟨h1, h2⟩ | ⟨v, x, h1, h2, h3⟩
  · rw [h1, h2]; rfl
  · rw [h1, h2]; simp [h3]
theorem setE_keys {k v : AV} : ∀ {es : List AEnt}, (∃ j, k = .int .i64 j) → (∀ x, x ∈ es → ∃ j, x.key = .int .i64 j) → ∀ x, x ∈ setE k v es → ∃ j, x.key = .int .i64 j
  | [], _, _, _, h => by simp [setE] at h
  | e :: es, hk, he, x, h => by
    unfold setE at h
    split at h
    · rcases List.mem_cons.1 h with rfl | h1
      · exact hk
      · exact he x (by simp [h1])
    · rcases List.mem_cons.1 h with rfl | h1
      · exact he _ (by simp)
      · exact setE_keys hk (fun y hy => he y (by simp [hy])) x h1
theorem IM.upd {es : List AEnt} {f : Int → Option Int} (h : IM es f) (k v : Int) (H : AHeap) (o : Nat) (sh : KSh) (c : Nat) :
    ∃ es' c', (match findE (.int .i64 k) es with
      | some _ => some (H.set o (.map sh (setE (.int .i64 k) (.int .i64 v) es) c))
      | none => some (H.set o (.map sh (es ++ [⟨.int .i64 k, .int .i64 v, c⟩]) (c + 1)))) = some (H.set o (.map sh es' c')) ∧ IM es' (fun x => if x = k then some v else f x) := by
  rcases h.find k with ⟨h1, h2⟩ | ⟨w, x, h1, h2, h3⟩
  · rw [h2]
    exact ⟨_, _, rfl, h.add h1⟩
  · rw [h2]
    refine ⟨_, _, rfl, fun j => ?_, setE_keys ⟨k, rfl⟩ h.2⟩
    rw [findE_set h.2 (by rw [h2]; simp) j]
    show _ = ((if j = k then some v else f j) : Option Int).map _
    by_cases c : j = k
    · rw [if_pos c, if_pos c]; rfl
    · rw [if_neg c, if_neg c]; exact h.1 j
theorem IM.updM {es : List AEnt} {f : Int → Option Int} (h : IM es f) (k v : Int) (H : AHeap) (o : Nat) (c : Nat) (ho : H.obj o = .map (.one (.i .i64)) es c) :
    ∃ es' c', updM (.int .i64 k) (.int .i64 v) (.map o) H (some (.one (.i .i64))) = some (H.set o (.map (.one (.i .i64)) es' c')) ∧ IM es' (fun x => if x = k then some v else f x) := by
  obtain ⟨es', c', h1, h2⟩ := h.upd k v H o (.one (.i .i64)) c
  refine ⟨es', c', ?_, h2⟩
  rw [← h1, updM_map]
  simp only [fits_one, fits_int, decide_true, if_true, ho]
  cases findE (.int .i64 k) es <;> rfl
end Go.Proofs.Ytiobohfiaapgeaa
end
section
namespace Go.Proofs.Ytiobohfiaapgeaa
set_option maxRecDepth 100000
set_option maxHeartbeats 4000000
theorem sim_step {most L : Int} {f : Nat} {ns0 : List Nd} {id : Int} (g0 : Gok ns0) (h1 : 1 ≤ id) (h2 : id ≤ ns0.length) (hL : most ≤ L) (hf : L + 2 ≤ f) {pre l : List Int} {j : Int} {ns : List Nd} {d : Int → Int} (hc : coneT ns0 id = pre ++ j :: l) (hd : Did ns0 ns d (fun x => x ∈ pre)) (hl : (ns.length : Int) ≤ L)
    {n : Nd} (hn : n = { ndF ns j with a := d (ndF ns j).a, b := d (ndF ns j).b, c := d (ndF ns j).c }) :
    formedF ns.length n = true ∧ (sortedF ns n).2 = 0 ∧ ((normF most f ns n).2.2 = 0 ∨ (normF most f ns n).2.2 = 33) ∧ ((normF most f ns n).2.2 = 0 → Did ns0 (normF most f ns n).1 (fun x => if x = j then (normF most f ns n).2.1 else d x) (fun x => x ∈ pre ++ [j])) ∧ (((normF most f ns n).1).length : Int) ≤ L := by
  have hk : j ∈ coneT ns0 id := by rw [hc]; simp
  obtain ⟨j, rfl, j1, j2⟩ := cone_mem hk
  have hrise := cone_rises ns0 id
  rw [hc] at hrise
  have k1 : (1 : Int) ≤ (j : Int) := by omega
  have k2 : (j : Int) ≤ ns0.length := by omega
  obtain ⟨i, hi, hni⟩ := nd_at k1 k2
  have N := next_ok g0 hd k1 k2 fun y hy h0 => by
    have := cone_kid g0.kok h1 h2 (j := i) (n := ndF ns0 j) (by rw [← hi]; exact hk) hni hy h0
    rw [← hi] at this
    refine mem_pre hrise ?_ this.2
    rw [← hc]; exact this.1
  obtain ⟨r1, r2⟩ := norm_next (most := most) (f := f) g0 hd k1 k2 N hn (by omega)
  have hlen := norm_len hL f (n := n) hl
  refine ⟨by rw [hn]; exact N.form, by rw [hn, N.srt], r1, fun h0 => ?_, hlen⟩
  have D := r2 h0
  exact ⟨D.more, D.gok, D.zero, fun x hx => D.did x (by simpa using hx)⟩
theorem simF_cons {most : Int} {f : Nat} {k : Int} {l : List Int} {ns : List Nd} {d : Int → Int} : simF most f (k :: l) ns d =
    if (normF most f ns { ndF ns k with a := d (ndF ns k).a, b := d (ndF ns k).b, c := d (ndF ns k).c }).2.2 = 0 then simF most f l (normF most f ns { ndF ns k with a := d (ndF ns k).a, b := d (ndF ns k).b, c := d (ndF ns k).c }).1 (fun x => if x = k then (normF most f ns { ndF ns k with a := d (ndF ns k).a, b := d (ndF ns k).b, c := d (ndF ns k).c }).2.1 else d x)
    else ((normF most f ns { ndF ns k with a := d (ndF ns k).a, b := d (ndF ns k).b, c := d (ndF ns k).c }).1, d, (normF most f ns { ndF ns k with a := d (ndF ns k).a, b := d (ndF ns k).b, c := d (ndF ns k).c }).2.2) := by
  conv => lhs; unfold simF
def MapAt (H : AHeap) (dn : Nat) (d : Int → Int) : Prop := ∃ es c fm, H.obj dn = .map (.one (.i .i64)) es c ∧ IM es fm ∧ ∀ x, d x = (fm x).getD 0
theorem MapAt.same {H H' : AHeap} {dn : Nat} {d : Int → Int} (h : MapAt H dn d) (e : H'.obj dn = H.obj dn) : MapAt H' dn d := by
  obtain ⟨es, c, fm, h1, h2, h3⟩ := h
  exact ⟨es, c, fm, by rw [e]; exact h1, h2, h3⟩
section
variable {H0 : AHeap} {w dn g : Nat} {most : Int} {ns : List Nd} {F : List Nat}
theorem sim_loop {H : AHeap} (hw : H0.size ≤ w) (hdn : H0.size ≤ dn) (h : WG H w dn g most ns F 0) (_hF : ∀ p, p ∈ F → p < H0.size) (kH : Keeps H0 H) (gk : Gok ns) {id : Int} (h1 : 1 ≤ id) (h2 : id ≤ ns.length) {f : Nat} (hf : most + 2 ≤ f) (hmap : H.obj dn = .map (.one (.i .i64)) [] 0) {v : AV} (hv : ∀ H, RI H v (coneT ns id)) (hcl : (coneT ns id).length ≤ 100000) {ev : Env} {r : Rn}
    (hL : loopL Try.prog KT R Zcv ev H = r) (e0 : ev 0 = some (.ptr g 0)) (e8 : ev 8 = some (.ptr w 0)) (e27 : ev 27 = some v) (e28 : ev 28 = some (.int .i64 (coneT ns id).length)) (e29 : ev 29 = some (.int .i64 0)) :
    ∃ x ev' H', r = some (x, ev', H') ∧ ((x = .exit 0 ∧ ∃ ns1 d F1, WG H' w dn g most ns1 F1 0 ∧ MapAt H' dn d ∧ simF most f (coneT ns id) ns (fun _ => 0) = (ns1, d, 0) ∧ Fr F H0 H' ∧ ∀ p, p ∈ F1 → p ∈ F ∨ H0.size ≤ p) ∨
      (x = .ret ∧ ∃ e ns1 F1, ¬ e = 0 ∧ e = (simF most f (coneT ns id) ns fun _ => 0).2.2 ∧ ev' 4 = some (.int .i64 0) ∧ ev' 5 = some (.int .i64 e) ∧ WG H' w dn g most ns1 F1 e ∧ Fr F H0 H' ∧ ∀ p, p ∈ F1 → p ∈ F ∨ H0.size ≤ p)) ∧ ∀ t, t ∉ defs Zcv → ev' t = ev t := by
  obtain ⟨cone, hcone⟩ : ∃ cone, cone = coneT ns id := ⟨_, rfl⟩
  rw [← hcone] at hv hcl e28 ⊢
  have D0 : Did ns ns (fun _ => 0) (fun x => x ∈ ([] : List Int)) := ⟨⟨[], by simp, by simp⟩, gk, fun _ _ => rfl, fun x hx => by cases hx⟩
  have frF : ∀ {A B : AHeap} {F1 : List Nat}, (∀ p, p ∈ F1 → p ∈ F ∨ H0.size ≤ p) → Fr F H0 A → Fr (w :: F1) A B → Fr F H0 B := fun {A B F1} hn a b => a.trans b fun p hp => by
    rcases List.mem_cons.1 hp with rfl | hp
    · exact .inr hw
    · exact hn p hp
  refine loop_count Zcv.eq_1 hL cone.length (fun i e1 H1 => e1 29 = some (.int .i64 i) ∧ ∃ ns1 d F1, WG H1 w dn g most ns1 F1 0 ∧ MapAt H1 dn d ∧ Did ns ns1 d (fun x => x ∈ cone.take i) ∧ simF most f cone ns (fun _ => 0) = simF most f (cone.drop i) ns1 d ∧ Fr F H0 H1 ∧ ∀ p, p ∈ F1 → p ∈ F ∨ H0.size ≤ p) _ 0 (Nat.zero_le _)
    ⟨e29, ns, fun _ => 0, F, h, ⟨[], 0, fun _ => none, hmap, IM.nil, fun _ => rfl⟩, by simpa using D0, by simp, kH.fr _, fun p hp => .inl hp⟩ ?_ ?_
  · rintro i e1 H1 hfr - hi' ⟨f29, ns1, d, F1, W, M, D, hs, k1, n1⟩
    have w1 : IntKind.i64.wrap ((i : Int) + 1) = (i : Int) + 1 := i64w (by omega) (by omega)
    have c1 : (i : Int) < cone.length := by omega
    have hv1 := hv H1
    obtain ⟨a1, a2⟩ := loadi_of hv1 hi'
    replace a2 := a2 H1 (Keeps.refl _)
    have hdrop : cone.drop i = cone.getD i 0 :: cone.drop (i + 1) := by
      rw [List.drop_eq_getElem_cons hi', List.getD_eq_getElem?_getD, List.getElem?_eq_getElem hi']; rfl
    have hcut : cone = cone.take i ++ cone.getD i 0 :: cone.drop (i + 1) := by rw [← hdrop, List.take_append_drop]
    have hta : cone.take (i + 1) = cone.take i ++ [cone.getD i 0] := by rw [List.take_add_one]; simp [List.getD_eq_getElem?_getD, hi']
    obtain ⟨k, hk⟩ : ∃ k, k = cone.getD i 0 := ⟨_, rfl⟩
    rw [← hk] at a2 hdrop hcut hta
    have hlim := W.G.lim
    obtain ⟨n, hn⟩ : ∃ n, n = ({ ndF ns1 k with a := d (ndF ns1 k).a, b := d (ndF ns1 k).b, c := d (ndF ns1 k).c } : Nd) := ⟨_, rfl⟩
    obtain ⟨sf, ss, sr, sd, sl⟩ := sim_step gk h1 h2 (Int.le_refl most) hf (by rw [← hcone]; exact hcut) D hlim.1 hn
    rw [hdrop] at hs
    rw [hta]
    have hnode := W.node k
    have hself := W.self
    have hlo := W.lo
    have hld := W.ld
    have hN := fun (HX : AHeap) (kX : Keeps H1 HX) (r : Option (AV × AHeap)) => norm_runs f (W.keeps kX) D.gok sf ss (by rcases sr with h | h <;> omega) (r := r)
    rw [simF_cons, ← hn] at hs
    obtain ⟨es, c, fm, om, im, dm⟩ := M
    have lka := im.look (ndF ns1 k).a
    have lkb := im.look (ndF ns1 k).b
    have lkc := im.look (ndF ns1 k).c
    rw [← dm] at lka lkb lkc
    obtain ⟨x, hx⟩ : ∃ x, x = ndF ns1 k := ⟨_, rfl⟩
    rw [← hx] at hnode lka lkb lkc
    have hcs : n.cs = [.int .i64 x.op, .int .i64 x.sort, .int .i64 (d x.a), .int .i64 (d x.b), .int .i64 (d x.c), .int .i64 x.p, .int .i64 x.q, .int .i64 x.vw, u x.vl, u x.vh, .str x.name] := by rw [hn, ← hx]; rfl
    simp only [hcs] at hN
    simp only [Nd.parts'] at hnode
    obtain ⟨HX, hX⟩ : ∃ HX, HX = ((((H1.new (.cells [.int .i64 0, .int .i64 0, .int .i64 0, .int .i64 0, .int .i64 0, .int .i64 0, .int .i64 0, .int .i64 0, u 0#64, u 0#64, .str .empty])).set H1.size (.cells [.int .i64 x.op, .int .i64 x.sort, .int .i64 x.a, .int .i64 x.b, .int .i64 x.c, .int .i64 x.p, .int .i64 x.q, .int .i64 x.vw, u x.vl, u x.vh, .str x.name])).set H1.size (.cells [.int .i64 x.op, .int .i64 x.sort, .int .i64 (d x.a), .int .i64 x.b, .int .i64 x.c, .int .i64 x.p, .int .i64 x.q, .int .i64 x.vw, u x.vl, u x.vh, .str x.name])).set H1.size (.cells [.int .i64 x.op, .int .i64 x.sort, .int .i64 (d x.a), .int .i64 (d x.b), .int .i64 x.c, .int .i64 x.p, .int .i64 x.q, .int .i64 x.vw, u x.vl, u x.vh, .str x.name])).set H1.size (.cells [.int .i64 x.op, .int .i64 x.sort, .int .i64 (d x.a), .int .i64 (d x.b), .int .i64 (d x.c), .int .i64 x.p, .int .i64 x.q, .int .i64 x.vw, u x.vl, u x.vh, .str x.name]) := ⟨_, rfl⟩
    have kX : Keeps H1 HX := by rw [hX]; ((repeat (first | exact Keeps.refl _ | assumption | refine Keeps.new' ?_ _ | refine Keeps.set ?_ ?_ _)) <;> (first | assumption | (simp; done) | (simp; omega)))
    have obX : HX.obj H1.size = (.cells [.int .i64 x.op, .int .i64 x.sort, .int .i64 (d x.a), .int .i64 (d x.b), .int .i64 (d x.c), .int .i64 x.p, .int .i64 x.q, .int .i64 x.vw, u x.vl, u x.vh, .str x.name]) := by rw [hX]; simp
    have lX : H1.size < HX.size := by rw [hX]; simp
    have WX := W.keeps kX
    have selfX := WX.self
    have loX := WX.lo
    have ldX := WX.ld
    obtain ⟨H3, F3, ns3, id3, e3, hA, W3, k3, n3, ok, bad⟩ := hN HX kX _ rfl
    have hld' : ∀ ev : Env, ev 8 = some (.ptr w 0) → ev 65 = some (.ptr w 1) → markLd [3, 7, 801, 997, 1008] ev (.tmp 65) (.map dn) = true := fun ev q1 q2 => markLd_one (s := 8) (d := 1) (o := w) (off := 0) (by rfl) (by rfl) q1 q2 (by rfl)
    have hcl' : ∀ ev : Env, ev 8 = some (.ptr w 0) → markCl [3, 7, 801, 997, 1008] ev HX H3 = true := fun ev q1 => markCl_one (s := 8) (d := 1) (o := w) (off := 0) (by rfl) (by rfl) q1 (by rw [W3.self, selfX]; rfl)
    have hdF : dn ∉ w :: F1 := fun hp => by
      rcases List.mem_cons.1 hp with hp | hp
      · exact W.ne hp.symm
      · exact (W.off dn hp).2 rfl
    have om3 : H3.obj dn = .map (.one (.i .i64)) es c := by rw [k3.obj dn ldX hdF, kX.obj dn hld, om]
    obtain ⟨es', c', hup, im'⟩ := im.updM k id3 H3 dn c om3
    have hX3 := kX.size
    have hk1 := k1.size
    have nn3 : ∀ p, p ∈ F3 → p ∈ F ∨ H0.size ≤ p := fun p hp => by
      rcases n3 p hp with h | h
      · exact n1 p h
      · exact .inr (by omega)
    obtain ⟨H4, hH4⟩ : ∃ H4, H4 = H3.set dn (.map (.one (.i .i64)) es' c') := ⟨_, rfl⟩
    have k4 : Fr [dn] H3 H4 := by rw [hH4]; exact (Fr.refl _ H3).set (.inl (by simp)) _
    have W4 : WG H4 w dn g most ns3 F3 e3 := ⟨by rw [k4.obj w W3.lo (by simpa using W.ne)]; exact W3.self, k4.lt W3.lo, k4.lt W3.ld, W3.G.frame k4 fun p hp => by simpa using (W3.off p hp).2, W3.off, W3.ne⟩
    have kf : Fr F H0 H4 := ((frF (B := H3) n1 k1 ((kX.fr _).trans k3 fun p hp => .inl hp))).trans k4 fun p hp => by
      simp at hp; subst hp; exact .inr hdn
    have M4 : MapAt H4 dn (fun y => if y = k then id3 else d y) := ⟨es', c', _, by rw [hH4]; simp, im', fun y => by
      by_cases c : y = k
      · simp only [c, if_true]; rfl
      · simp only [c, if_false]; exact dm y⟩
    have self4 := W4.self
    have lo4 := W4.lo
    rw [← hH4] at hup
    simp (maxDischargeDepth := 40) (maxSteps := 1000000) [-updM_map, hfr, f29, e0, e8, e27, e28, c1, a1, a2, hnode, hself, hlo, hld, om, lka, lkb, lkc, ← hX]
    simp (maxDischargeDepth := 40) (maxSteps := 1000000) [-updM_map, hfr, e8, obX, selfX, hld', hcl', hA, hup, self4]
    by_cases h0 : (normF most f ns1 n).2.2 = 0
    · obtain ⟨rfl, rfl, rfl⟩ := ok h0
      rw [if_pos h0] at hs
      simp (maxDischargeDepth := 40) [f29, w1]
      have D3 := sd h0
      exact ⟨_, _, F3, W4, M4, ⟨D3.more, D3.gok, D3.zero, fun y hy => D3.did y (by simpa using hy)⟩, hs, kf, nn3⟩
    · have he := bad h0
      have he3 : ¬ e3 = 0 := by rw [he]; exact h0
      rw [if_neg h0] at hs
      simp (maxDischargeDepth := 40) [hfr, e8, self4, he3]
      exact ⟨e3, he3, by rw [hs]; exact he, rfl, ns3, F3, W4, kf, nn3⟩
  · rintro e1 H1 hfr ⟨f29, ns1, d, F1, W, M, D, hs, k1, n1⟩
    simp [hfr, f29, e28]
    refine ⟨ns1, d, F1, W, M, ?_, k1, n1⟩
    rw [hs, List.drop_length]
    rfl
theorem GT.back2 {H' : AHeap} {js : List Nd} {F' : List Nat} (g0 : GT H0 g most ns F) (g1 : GT H' g most js F') (k : Fr F H0 H') (a b : Int) :
    ∃ D, back [] H0 (.tup [.int .i64 a, .int .i64 b]) H' = (.tup [.int .i64 a, .int .i64 b], D) ∧ GT D g most js F' ∧ Fr F H0 D := by
  by_cases hs : Shut H0 H'
  · rw [back_nil (by simp) hs]
    obtain ⟨g2, -⟩ := g0.cut g1 hs
    exact ⟨_, rfl, g2, k.cutF⟩
  · rw [back_not hs]
    exact ⟨_, rfl, g1, k⟩
theorem simplify_run (G : GT H0 g most ns F) (gk : Gok ns) {id : Int} {f : Nat} (hf : most + 2 ≤ f) {r : Option (AV × AHeap)} (hr : R Zu [.ptr g 0, .int .i64 id] H0 = r) :
    ∃ H' F' ns', r = some (.tup [.int .i64 (simT most f ns id).2.1, .int .i64 (simT most f ns id).2.2], H') ∧ GT H' g most ns' F' ∧ Fr F H0 H' ∧ (∀ p, p ∈ F' → p ∈ F ∨ H0.size ≤ p) ∧ ((simT most f ns id).2.2 = 0 → ns' = (simT most f ns id).1) := by
  rw [Zhq] at hr
  have hnode : ∀ id, R Zj [.ptr g 0, .int .i64 id] H0 = some (.tup [.agg (ndF ns id).cs, .bool (nodeS ns id).isSome], H0) := fun id => by
    obtain ⟨o1, o2, o3, t, -⟩ := G
    exact node_run t
  have hn := hnode id
  have hF : ∀ p, p ∈ F → p < H0.size := fun p hp => G.ltF hp
  obtain ⟨x, hx⟩ : ∃ x, x = ndF ns id := ⟨_, rfl⟩
  rw [← hx] at hn
  simp only [Nd.parts'] at hn
  by_cases c : id < 1 ∨ (ns.length : Int) < id
  · have hno : nodeS ns id = none := by
      unfold nodeS
      by_cases c1 : id < 1
      · first | rw [if_pos c1] | rw [if_pos (Or.inl c1)] | simp [c1]
      · first | (rw [if_neg (by omega)]; exact List.getElem?_eq_none (by omega)) | (rw [if_pos (by omega)])
    rw [hno] at hn
    have hs : simT most f ns id = (ns, 0, 70) := by unfold simT; rw [if_pos c]
    rw [hs]
    simp (maxDischargeDepth := 40) [Ze8, hn] at hr
    exact ⟨H0, F, ns, hr.symm, G, Fr.refl _ _, fun p hp => .inl hp, fun h => by cases h⟩
  · obtain ⟨i, hi, hni⟩ := nd_at (ns := ns) (k := id) (by omega) (by omega)
    have hyes : (nodeS ns id).isSome = true := by
      unfold nodeS
      rw [if_neg (by omega), show (id - 1).toNat = i by omega, hni]
      rfl
    rw [hyes] at hn
    obtain ⟨v, hc, hv⟩ := cone_run2 (G.keeps (((((Keeps.refl H0).new' (.cells Nd.zero.cs)).set (o := H0.size) (Nat.le_refl _) (.cells x.cs)).new' (.map (.one (.i .i64)) [] 0)).new' (.cells [.ptr g 0, .map (H0.size + 1), .int .i64 0]))) (id := id)
    have hlen := (hv H0).len
    simp only [Nd.parts'] at hc
    simp (maxDischargeDepth := 40) [Nd.zero] at hc
    obtain ⟨HX, hX⟩ : ∃ HX, HX = (((H0.new (.cells [.int .i64 0, .int .i64 0, .int .i64 0, .int .i64 0, .int .i64 0, .int .i64 0, .int .i64 0, .int .i64 0, u 0#64, u 0#64, .str .empty])).set H0.size (.cells [.int .i64 x.op, .int .i64 x.sort, .int .i64 x.a, .int .i64 x.b, .int .i64 x.c, .int .i64 x.p, .int .i64 x.q, .int .i64 x.vw, u x.vl, u x.vh, .str x.name])).new (.map (.one (.i .i64)) [] 0)).new (.cells [.ptr g 0, .map (H0.size + 1), .int .i64 0]) := ⟨_, rfl⟩
    have kX : Keeps H0 HX := by rw [hX]; ((repeat (first | exact Keeps.refl _ | assumption | refine Keeps.new' ?_ _ | refine Keeps.set ?_ ?_ _)) <;> (first | assumption | (simp; done) | (simp; omega)))
    have sX : HX.size = H0.size + 3 := by rw [hX]; simp
    have hmap : HX.obj (H0.size + 1) = .map (.one (.i .i64)) [] 0 := by rw [hX]; simp
    have WX : WG HX (H0.size + 1 + 1) (H0.size + 1) g most ns F 0 := ⟨by rw [hX]; simp, by omega, by omega, G.keeps kX, fun p hp => by have := hF p hp; omega, by omega⟩
    have hcl : (coneT ns id).length ≤ 100000 := by
      have hlim := G.lim
      unfold coneT
      rw [if_neg (by omega)]
      have := outT_len (coneM ns id.toNat) (id.toNat + 1)
      omega
    rw [← hX] at hc
    simp (maxDischargeDepth := 40) [Ze8, hn, ← hX, hc, hlen] at hr
    generalize hL : loopL _ _ _ _ _ _ = q at hr
    obtain ⟨xx, ev, H3, rfl, hx3, fr⟩ := sim_loop (by omega) (by omega) WX hF kX gk (by omega) (by omega) hf hmap hv hcl hL (by simp) (by simp) (by simp) (by simp) (by simp)
    rcases hx3 with ⟨rfl, ns1, d, F1, W1, ⟨es, c2, fm, om, im, dm⟩, hsim, kf, n1⟩ | ⟨rfl, e, ns1, F1, he, hes, f4, f5, W1, kf, n1⟩
    · have hs : simT most f ns id = (ns1, d id, 0) := by
        unfold simT
        rw [if_neg (by omega), hsim]
        rfl
      have lk := im.look id
      rw [← dm] at lk
      rw [hs]
      simp (maxDischargeDepth := 40) [fr, W1.self, om, lk] at hr
      obtain ⟨D, hD, g4, k4⟩ := G.back2 W1.G kf (d id) 0
      rw [hD] at hr
      exact ⟨D, F1, ns1, hr.symm, g4, k4, n1, fun _ => rfl⟩
    · have hs : simT most f ns id = ((simF most f (coneT ns id) ns fun _ => 0).1, 0, e) := by
        unfold simT
        rw [if_neg (by omega), if_neg (by rw [← hes]; exact he), ← hes]
      rw [hs]
      simp (maxDischargeDepth := 40) [f4, f5] at hr
      obtain ⟨D, hD, g4, k4⟩ := G.back2 W1.G kf 0 e
      rw [hD] at hr
      exact ⟨D, F1, ns1, hr.symm, g4, k4, n1, fun h => absurd h he⟩
end
end Go.Proofs.Ytiobohfiaapgeaa
end
section
namespace Go.Proofs.Ytiobohfiaapgeaa
set_option maxRecDepth 100000
def maskV (s : Int) (k : Int) : Vl := ⟨s, mkN (BitVec.ofInt 64 k &&& ((1#64 <<< (max s 1).toNat) - 1#64)) 0#64⟩
def nthL : List Nd → Int → List Nm
  | [], _ => []
  | n :: l, k => ⟨n.name, maskV n.sort k⟩ :: nthL l (k.fdiv (2 ^ (min (max n.sort 1).toNat 64)))
def vnodes (ns : List Nd) : List Nd := (varsT ns ns.length).map fun x => ndF ns x
theorem mask_bits : ∀ w : Fin 10, ∀ i : Fin 64, ((1#64 <<< (w : Nat)) - 1#64).getLsbD i = decide ((i : Nat) < (w : Nat)) := by decide
theorem maskV_ok {s k : Int} (h0 : 0 ≤ s) (h9 : s ≤ 9) : (maskV s k).ok = true := by
  unfold Vl.ok maskV rightF
  simp only [lo_mk, hi_mk]
  obtain ⟨m, hm⟩ : ∃ m : Nat, (max s 1).toNat = m := ⟨_, rfl⟩
  rw [hm]
  by_cases c : s = 0
  · rw [if_pos c]
    have : m = 1 := by omega
    subst this
    refine decide_eq_true ⟨?_, by first | rfl | trivial⟩
    rw [BitVec.le_def, BitVec.toNat_and]
    exact Nat.and_le_right
  · rw [if_neg c, Bool.and_eq_true]
    refine ⟨decide_eq_true (by omega), decide_eq_true ?_⟩
    have hm2 : m = s.toNat := by omega
    have h10 : m < 10 := by omega
    rw [← hm2]
    apply BitVec.eq_of_getLsbD_eq
    intro i hi'
    rw [BitVec.getLsbD_and, maskN_bit m i (by omega)]
    by_cases ci : i < m
    · simp [ci]
    · have hb := mask_bits ⟨m, h10⟩
      simp only at hb
      have hz : (mkN (BitVec.ofInt 64 k &&& ((1#64 <<< m) - 1#64)) 0#64).getLsbD i = false := by
        by_cases c64 : i < 64
        · have h1 := congrArg (fun x : BitVec 64 => x.getLsbD i) (lo_mk (BitVec.ofInt 64 k &&& ((1#64 <<< m) - 1#64)) 0#64)
          simp only [BitVec.getLsbD_and] at h1
          have h2 := hb ⟨i, c64⟩
          simp only at h2
          rw [h2, decide_eq_false ci, Bool.and_false] at h1
          simpa [lo, c64] using h1
        · have h1 := congrArg (fun x : BitVec 64 => x.getLsbD (i - 64)) (hi_mk (BitVec.ofInt 64 k &&& ((1#64 <<< m) - 1#64)) 0#64)
          have e : 64 + (i - 64) = i := by omega
          have e2 : i - 64 < 64 := by omega
          simpa [hi, e, e2] using h1
      rw [hz]
      rfl
theorem nthL_mem : ∀ {l : List Nd} {k : Int} {m : Nm}, m ∈ nthL l k → ∃ n k', n ∈ l ∧ m = ⟨n.name, maskV n.sort k'⟩
  | [], _, _, h => by cases h
  | n :: l, k, m, h => by
    unfold nthL at h
    rcases List.mem_cons.1 h with rfl | h
    · exact ⟨n, k, by simp, rfl⟩
    · obtain ⟨n', k', h1, h2⟩ := nthL_mem h
      exact ⟨n', k', by simp [h1], h2⟩
theorem nthL_has : ∀ {l : List Nd} (k : Int) {n : Nd}, n ∈ l → ∃ m, m ∈ nthL l k ∧ m.name = n.name
  | [], _, _, h => by cases h
  | a :: l, k, n, h => by
    unfold nthL
    rcases List.mem_cons.1 h with rfl | h
    · exact ⟨_, List.mem_cons_self .., rfl⟩
    · obtain ⟨m, h1, h2⟩ := nthL_has (k.fdiv (2 ^ (min (max a.sort 1).toNat 64))) h
      exact ⟨m, by simp [h1], h2⟩
theorem nthL_len : ∀ (l : List Nd) (k : Int), (nthL l k).length = l.length
  | [], _ => rfl
  | n :: l, k => by unfold nthL; simp [nthL_len l]
theorem vnodes_mem {ns : List Nd} {n : Nd} : n ∈ vnodes ns ↔ n ∈ ns ∧ n.op = 2 := by
  unfold vnodes
  rw [List.mem_map]
  constructor
  · rintro ⟨x, hx, rfl⟩
    obtain ⟨j, rfl, hj, hj2⟩ := mem_vars hx
    obtain ⟨i, hi, hni⟩ := nd_at (ns := ns) (k := (j : Int) + 1) (by omega) (by omega)
    have : i = j := by omega
    subst this
    rw [List.getD_eq_getElem?_getD, hni] at hj2
    exact ⟨List.mem_of_getElem? hni, hj2⟩
  · rintro ⟨hn, h2⟩
    obtain ⟨j, hj, hjn⟩ := List.mem_iff_getElem.1 hn
    have hjn' : ns[j]? = some n := by rw [List.getElem?_eq_getElem hj, hjn]
    refine ⟨(j : Int) + 1, ?_, ?_⟩
    · unfold varsT
      simp only [List.mem_map, List.mem_filter, List.mem_range, decide_eq_true_eq]
      exact ⟨j, ⟨hj, by rw [List.getD_eq_getElem?_getD, hjn']; exact h2⟩, rfl⟩
    · obtain ⟨i, hi, hni⟩ := nd_at (ns := ns) (k := (j : Int) + 1) (by omega) (by omega)
      have : i = j := by omega
      subst this
      rw [hjn'] at hni
      cases hni
      rfl
theorem nth_fit {ns : List Nd} (g : Gok ns) {k : Int} (hs : ∀ n, n ∈ vnodes ns → n.sort ≤ 9) : AllFit (lookL (nthL (vnodes ns) k)) ns := by
  intro i n hn h2
  have hmem : n ∈ vnodes ns := vnodes_mem.2 ⟨List.mem_of_getElem? hn, h2⟩
  unfold varFit lookL
  cases hf : (nthL (vnodes ns) k).find? (fun m => decide (m.name = n.name)) with
  | none =>
    exfalso
    obtain ⟨m, hm, hmn⟩ := nthL_has k hmem
    have := List.find?_eq_none.1 hf m hm
    simp [hmn] at this
  | some m =>
    have hp := List.find?_some hf
    have hm := List.mem_of_find?_eq_some hf
    obtain ⟨n', k', hn', rfl⟩ := nthL_mem hm
    obtain ⟨h3, h4⟩ := vnodes_mem.1 hn'
    obtain ⟨j, hj, hjn⟩ := List.mem_iff_getElem.1 h3
    have hjn' : ns[j]? = some n' := by rw [List.getElem?_eq_getElem hj, hjn]
    have e := g.same hjn' hn h4 h2 (by simpa using hp)
    subst e
    rw [hjn'] at hn
    cases hn
    have hso := g.sort h3 h4
    unfold isSort at hso
    have hso := of_decide_eq_true hso
    simp only [Option.map_some, Bool.and_eq_true, decide_eq_true_eq]
    exact ⟨maskV_ok hso.1 (hs _ hmem), rfl⟩
theorem worth_simp {ns : List Nd} (_g : Gok ns) {id : Int} {x : List Nd × Int × Int} (S : Simp ns id x) (h1 : 1 ≤ id) (h2 : id ≤ ns.length) {look : ByteArray → Option Vl} (hA : AllFit look ns) : worthS look x.1 x.2.1 = (V look ns id, 0) ∧ worthS look x.1 id = (V look ns id, 0) := by
  obtain ⟨t, ht, hno⟩ := S.more
  have hA2 : AllFit look x.1 := by rw [ht]; exact hA.appends hno
  have hle : ns.length ≤ x.1.length := by rw [ht]; simp
  have hlo := S.lo
  have hhi := S.hi
  unfold worthS
  rw [if_neg (by omega), if_neg (by rw [hA2.any]; simp), S.val look hA]
  refine ⟨rfl, ?_⟩
  rw [if_neg (by omega), if_neg (by rw [hA2.any]; simp), ht, V_more h2]
end Go.Proofs.Ytiobohfiaapgeaa
end
section
namespace Go.Proofs.Ytiobohfiaapgeaa
set_option maxRecDepth 100000
set_option maxHeartbeats 4000000
theorem len_run {H : AHeap} {g : Nat} {most : Int} {ns : List Nd} {o1 o2 o3 : Nat} (h : TG H g most ns o1 o2 o3) : R Z9 [.ptr g 0] H = some (.int .i64 ns.length, H) := by
  rw [Zgx]
  simp (maxDischargeDepth := 40) [Zfb, h.og, slv_len]
end Go.Proofs.Ytiobohfiaapgeaa
end
section
namespace Go.Proofs.Ytiobohfiaapgeaa
set_option maxRecDepth 100000
set_option maxHeartbeats 4000000
theorem made7_loop {H0 H : AHeap} {g : Nat} {l : List Nd} {F : List Nat} (hl : l.length ≤ 60) (G0 : GT H g 4096 [] F) (k0 : Keeps H0 H) (f0 : ∀ p, p ∈ F → H0.size ≤ p) {e : Env} {r : Rn} (hL : loopL Try.prog KT R Zdf e H = r)
    (e0 : e 0 = some (NL l)) (e4 : e 4 = some (.ptr g 0)) (e5 : e 5 = some (.int .i64 0)) :
    ∃ y e' H', r = some (y, e', H') ∧ (Keeps H0 H' ∧ ((y = .exit 0 ∧ ∃ ns F, GT H' g 4096 ns F ∧ (∀ p, p ∈ F → H0.size ≤ p) ∧ Gok ns ∧ ns.length ≤ l.length) ∨ (y = .ret ∧ e' 2 = some .nilp ∧ e' 3 = some (.bool false)))) ∧ ∀ t, t ∉ defs Zdf → e' t = e t := by
  refine loop_count Zdf.eq_1 hL l.length (fun i e1 H1 => e1 5 = some (.int .i64 i) ∧ Keeps H0 H1 ∧ ∃ ns F, GT H1 g 4096 ns F ∧ (∀ p, p ∈ F → H0.size ≤ p) ∧ Gok ns ∧ ns.length ≤ i) _ 0 (by omega) ⟨e5, k0, [], F, G0, f0, Gok.nil, Nat.le_refl _⟩ ?_ ?_
  · rintro i f H1 hf - hi ⟨f5, k1, ns, F1, G1, f1, gok, hnl⟩
    have w1 : IntKind.i64.wrap ((i : Int) + 1) = (i : Int) + 1 := i64w (by omega) (by omega)
    have c1 : (i : Int) < l.length := by omega
    obtain ⟨n, hn⟩ : ∃ n, l[i]? = some n := ⟨l[i], by simp [hi]⟩
    have hat := flat_at hn
    have hfl := flat_len l
    have hle : i * 11 + 11 ≤ l.length * 11 := by omega
    have hle10 : i * 11 + 10 < l.length * 11 := by omega
    have hat10 : (flat l)[i * 11 + 8 + 2]? = some (.str n.name) := by
      rw [show i * 11 + 8 + 2 = i * 11 + 10 from by omega, flat_get hn (by omega)]; rfl
    by_cases c2 : (60 : Int) < n.name.size
    · simp (maxDischargeDepth := 40) [hf, NL, e0, f5, c1, hat10, c2]
      exact k1
    · simp (maxDischargeDepth := 40) [hf, NL, e0, e4, f5, c1, hfl, hle, hat, hat10, c2]
      generalize hN : R Zl _ _ = qq
      obtain ⟨js, x, er, hmk⟩ : ∃ js x er, makT 4096 ns n = (js, x, er) := ⟨_, _, _, rfl⟩
      have gk : Gok js := by have := gok.make (most := 4096) (n := n); rw [hmk] at this; exact this
      have hjl : js.length ≤ ns.length + 1 := by have := makT_len (most := 4096) (ns := ns) (n := n); rw [hmk] at this; exact this
      obtain ⟨H2, F2, rfl, g2, m2⟩ := GvT.go G1 hmk hN
      simp (maxDischargeDepth := 40) [f5, w1]
      have hsz := k1.size
      refine ⟨m2.fr.keeps k1 f1, js, F2, g2, fun p hp => ?_, gk, by omega⟩
      rcases m2.new p hp with h | h
      · exact f1 p h
      · omega
  · rintro f H1 hf ⟨f5, k1, ns, F1, G1, f1, gok, hnl⟩
    simp [hf, NL, f5, e0]
    exact ⟨k1, ns, F1, G1, f1, gok, by omega⟩
theorem made7_run {H : AHeap} {l : List Nd} {r : Option (AV × AHeap)} (h : R Zcm [NL l] H = r) :
    (∃ p, r = some (.tup [p, .bool false], H)) ∨ ∃ g ns F H', r = some (.tup [.ptr g 0, .bool (decide (0 < ns.length))], H') ∧ GT H' g 4096 ns F ∧ Keeps H H' ∧ (∀ p, p ∈ F → H.size ≤ p) ∧ Gok ns ∧ ns.length ≤ 60 := by
  rw [Zic] at h
  by_cases c1 : (60 : Int) < l.length
  · simp (maxDischargeDepth := 40) [Zfu, NL, c1] at h
    exact .inl ⟨_, h.symm⟩
  · have hl : l.length ≤ 60 := by omega
    simp (maxDischargeDepth := 40) [Zfu, NL, c1] at h
    generalize hN : R Zfd _ _ = q at h
    obtain ⟨H1, g, F1, rfl, g1, k1, f1⟩ := tnew_run hN
    rw [show min (max (4096 : Int) 1) 4096 = 4096 from by decide] at g1
    simp (maxDischargeDepth := 40) at h
    generalize hL : loopL _ _ _ _ _ _ = q2 at h
    obtain ⟨y, e3, H3, rfl, ⟨k3, hy⟩, fr⟩ := made7_loop hl g1 k1 f1 hL (by simp [NL]) (by simp) (by simp)
    rcases hy with ⟨rfl, ns, F3, G3, f3, gok, hnl⟩ | ⟨rfl, a2, a3⟩
    · right
      have hl3 : R Z9 [.ptr g 0] H3 = some (.int .i64 ns.length, H3) := by
        obtain ⟨p1, p2, p3, t, -⟩ := G3
        exact len_run t
      simp (maxDischargeDepth := 40) [fr, hl3] at h
      have hg : H.size ≤ g := f3 g G3.mem
      rw [back_open (by simp [closed]; omega)] at h
      exact ⟨g, ns, F3, H3, h.symm, G3, k3, f3, gok, by omega⟩
    · left
      simp (maxDischargeDepth := 40) [a2, a3, k3] at h
      exact ⟨_, h.symm⟩
def widthF (most : Int) : List Nd → Int → Int
  | [], a => a
  | n :: l, a => if a ≤ most then widthF most l (a + max n.sort 1) else a
theorem widthF_cons {most : Int} {n : Nd} {l : List Nd} {a : Int} : widthF most (n :: l) a = if a ≤ most then widthF most l (a + max n.sort 1) else a := rfl
theorem widthF_few {most : Int} : ∀ (l : List Nd) (a : Int), 0 ≤ a → widthF most l a ≤ most → a ≤ widthF most l a ∧ ∀ n, n ∈ l → n.sort ≤ most
  | [], a, _, h => ⟨Int.le_refl _, fun n hn => by cases hn⟩
  | n :: l, a, h0, h => by
    unfold widthF at h ⊢
    by_cases c : a ≤ most
    · rw [if_pos c] at h ⊢
      obtain ⟨h1, h2⟩ := widthF_few l (a + max n.sort 1) (by omega) h
      refine ⟨by omega, fun m hm => ?_⟩
      rcases List.mem_cons.1 hm with rfl | hm
      · omega
      · exact h2 m hm
    · rw [if_neg c] at h
      omega
theorem nd_fld {H : AHeap} {v : AV} {l : List Nd} (h : Reads H v 11 l.length (flat l)) {i : Nat} {n : Nd} (hn : l[i]? = some n) :
    (∃ o off, aindexAddr Try.prog Zm v (i : Int) = some (.ptr o off) ∧ aload Try.prog H Zd (.ptr o (off + 1)) = some (.int .i64 n.sort) ∧ aload Try.prog H Zcg (.ptr o (off + 10)) = some (.str n.name)) ∨
    (∃ cs off, aindexAddr Try.prog Zm v (i : Int) = some (.ptrl cs off) ∧ aload Try.prog H Zd (.ptrl cs (off + 1)) = some (.int .i64 n.sort) ∧ aload Try.prog H Zcg (.ptrl cs (off + 10)) = some (.str n.name)) := by
  have hi := (List.getElem?_eq_some_iff.1 hn).1
  have ha := Reads.addr (P := Try.prog) h (t := Zm) (by simp) hi
  have f1 := Reads.fld (P := Try.prog) h (t := Zd) (by simp) hi (j := 1) (by omega)
  have f2 := Reads.fld (P := Try.prog) h (t := Zcg) (by simp) hi (j := 10) (by omega)
  rw [flat_get hn (by omega)] at f1 f2
  rw [ha]
  generalize ixp v 11 i = p at *
  cases p <;> first | (simp only at f1; cases f1; done) | skip
  · exact .inl ⟨_, _, rfl, f1, f2⟩
  · exact .inr ⟨_, _, rfl, f1, f2⟩
theorem nd_fldA {v : AV} {l : List Nd} (h : ∀ H, Reads H v 11 l.length (flat l)) {i : Nat} {n : Nd} (hn : l[i]? = some n) :
    (∃ o off, aindexAddr Try.prog Zm v (i : Int) = some (.ptr o off) ∧ (∀ H, aload Try.prog H Zd (.ptr o (off + 1)) = some (.int .i64 n.sort)) ∧ ∀ H, aload Try.prog H Zcg (.ptr o (off + 10)) = some (.str n.name)) ∨
    (∃ cs off, aindexAddr Try.prog Zm v (i : Int) = some (.ptrl cs off) ∧ (∀ H, aload Try.prog H Zd (.ptrl cs (off + 1)) = some (.int .i64 n.sort)) ∧ ∀ H, aload Try.prog H Zcg (.ptrl cs (off + 10)) = some (.str n.name)) := by
  have hi := (List.getElem?_eq_some_iff.1 hn).1
  have ha := fun H => Reads.addr (P := Try.prog) (h H) (t := Zm) (by simp) hi
  have f1 := fun H => Reads.fld (P := Try.prog) (h H) (t := Zd) (by simp) hi (j := 1) (by omega)
  have f2 := fun H => Reads.fld (P := Try.prog) (h H) (t := Zcg) (by simp) hi (j := 10) (by omega)
  simp only [flat_get hn (show 1 < 11 by omega), flat_get hn (show 10 < 11 by omega)] at f1 f2
  have H0 : AHeap := ⟨0, fun _ => .dead, fun _ => default⟩
  rw [ha H0]
  clear ha
  generalize ixp v 11 i = p at *
  cases p <;> first | (have := f1 H0; simp only at this; cases this; done) | skip
  · exact .inl ⟨_, _, rfl, f1, f2⟩
  · exact .inr ⟨_, _, rfl, f1, f2⟩
theorem width_loop {N : Int} {H : AHeap} {v : AV} {l : List Nd} (hv : Reads H v 11 l.length (flat l)) (hl : l.length ≤ 5000) (hs : ∀ n, n ∈ l → 0 ≤ n.sort ∧ n.sort ≤ 128) {e : Env} {r : Rn} (hL : loopL Try.prog KT R Zc9 e H = r)
    (e0 : e 0 = some v) (e1 : e 1 = some (.int .i64 N)) (e5 : e 5 = some (.int .i64 0)) (e6 : e 6 = some (.int .i64 0)) :
    ∃ y e' H', r = some (y, e', H') ∧ (H' = H ∧ y = .exit 0 ∧ e' 5 = some (.int .i64 (widthF N l 0))) ∧ ∀ t, t ∉ defs Zc9 → e' t = e t := by
  have hlen0 := hv.len
  refine loop_rule Zc9.eq_1 hL (fun m e1 H1 => ∃ i, i ≤ l.length ∧ m = l.length - i ∧ H1 = H ∧ e1 6 = some (.int .i64 i) ∧ ∃ a, e1 5 = some (.int .i64 a) ∧ 0 ≤ a ∧ a ≤ i * 128 ∧ widthF N l 0 = widthF N (l.drop i) a) _ l.length ⟨0, by omega, by omega, rfl, e6, 0, e5, by simp, by simp, by simp⟩ ?_
  rintro m f H1 hf ⟨i, hi, rfl, rfl, f6, a, f5, a0, a1, ha⟩
  have w1 : IntKind.i64.wrap ((i : Int) + 1) = (i : Int) + 1 := i64w (by omega) (by omega)
  by_cases c1 : i < l.length
  · have c1' : (i : Int) < l.length := by omega
    obtain ⟨n, hn⟩ : ∃ n, l[i]? = some n := ⟨l[i], by simp [c1]⟩
    obtain ⟨s0, s1⟩ := hs n (List.mem_of_getElem? hn)
    have hdrop : l.drop i = n :: l.drop (i + 1) := by
      rw [List.drop_eq_getElem_cons c1]
      rw [List.getElem?_eq_getElem c1] at hn
      cases hn
      rfl
    rw [hdrop, widthF_cons] at ha
    by_cases c2 : a ≤ N
    · rw [if_pos c2] at ha
      obtain ⟨mx, hmx⟩ : ∃ mx, mx = max n.sort 1 := ⟨_, rfl⟩
      have m0 : 0 ≤ mx ∧ mx ≤ 128 := by omega
      have w2 : IntKind.i64.wrap (a + mx) = a + mx := i64w (by omega) (by omega)
      rw [← hmx] at ha
      rcases nd_fld hv hn with ⟨o, off, q1, q2, -⟩ | ⟨cs, off, q1, q2, -⟩ <;>
      · simp (maxDischargeDepth := 40) [hf, e0, e1, f5, f6, c1', c2, hlen0, q1, q2, w1, ← hmx, w2]
        exact ⟨l.length - (i + 1), by omega, i + 1, by omega, rfl, by simp, by omega, by omega, ha⟩
    · rw [if_neg c2] at ha
      simp (maxDischargeDepth := 40) [hf, e0, e1, f5, f6, c1', c2, hlen0]
      exact ha.symm
  · have c1' : ¬ (i : Int) < l.length := by omega
    simp (maxDischargeDepth := 40) [hf, e0, f5, f6, c1', hlen0]
    rw [ha, List.drop_eq_nil_of_le (by omega)]
    rfl
theorem width_run {N : Int} {H : AHeap} {v : AV} {l : List Nd} (hv : Reads H v 11 l.length (flat l)) (hl : l.length ≤ 5000) (hs : ∀ n, n ∈ l → 0 ≤ n.sort ∧ n.sort ≤ 128) : R Zco [v, .int .i64 N] H = some (.int .i64 (widthF N l 0), H) := by
  generalize hr : R Zco [v, .int .i64 N] H = r
  rw [Zh0] at hr
  simp (maxDischargeDepth := 40) [Zgm] at hr
  generalize hL : loopL _ _ _ _ _ _ = q at hr
  obtain ⟨y, e1, H1, rfl, ⟨rfl, rfl, f5⟩, fr⟩ := width_loop (N := N) hv hl hs hL (by simp) (by simp) (by simp) (by simp)
  simp [f5] at hr
  exact hr.symm
theorem back_outB {H H' : AHeap} {v : AV} {sz n : Nat} {cs : List AV} {b : Bool} (k : Keeps H H') (h : OutC H H' v sz n cs) (hcl : closedL H.size cs = true) : ∃ w, back [0, 0] H (.tup [v, .bool b]) H' = (.tup [w, .bool b], H) ∧ ∀ H2, Reads H2 w sz n cs := by
  obtain ⟨w, h1, h2, h3⟩ := frz_out h hcl
  have he : frz H' H.size [0, 0] (.tup [v, .bool b]) = .tup [w, .bool b] := by rw [frz_tup]; simp only [List.map_cons, List.map_nil, h1]; rfl
  exact ⟨w, by rw [back_cons (by rw [he]; simp [h2]) k.shut, cut_keeps k, he], h3⟩
theorem closed_flat {n : Nat} : ∀ l : List Nd, closedL n (flat l) = true
  | [] => rfl
  | x :: l => by
    rw [show flat (x :: l) = x.cs ++ flat l from rfl, closedL_append, closed_flat l]
    simp [Nd.cs]
theorem few_loop {H0 H : AHeap} {g : Nat} {most : Int} {ns : List Nd} {F : List Nat} (G : GT H0 g most ns F) (k0 : Keeps H0 H) {s : AV} {xs : List Int} (hs : ∀ H', RI H' s xs) (hx : xs.length ≤ 5000) {e : Env} {r : Rn} (hL : loopL Try.prog KT R Zdn e H = r)
    (e0 : e 0 = some (.ptr g 0)) (e6 : e 6 = some .nils) (e7 : e 7 = some s) (e8 : e 8 = some (.int .i64 0)) :
    ∃ y e' H', r = some (y, e', H') ∧ (y = .exit 0 ∧ Keeps H0 H' ∧ ∃ w, e' 6 = some w ∧ OutC H0 H' w 11 xs.length (flat (xs.map (ndF ns)))) ∧ ∀ t, t ∉ defs Zdn → e' t = e t := by
  have hlen := (hs H).len
  refine loop_count Zdn.eq_1 hL xs.length (fun i e1 H1 => e1 8 = some (.int .i64 i) ∧ Keeps H0 H1 ∧ ∃ w, e1 6 = some w ∧ OutC H0 H1 w 11 i (flat ((xs.take i).map (ndF ns)))) _ 0 (by omega) ⟨e8, k0, .nils, e6, OutC.nils⟩ ?_ ?_
  · rintro i f H1 hf - hi ⟨f8, k, w, f6, hw⟩
    have w1 : IntKind.i64.wrap ((i : Int) + 1) = (i : Int) + 1 := i64w (by omega) (by omega)
    have c1 : (i : Int) < xs.length := by omega
    obtain ⟨a1, a2⟩ := loadi_of (hs H1) hi
    replace a2 := a2 H1 (Keeps.refl _)
    have ht : xs.take (i + 1) = xs.take i ++ [xs.getD i 0] := by rw [List.take_add_one]; simp [List.getD_eq_getElem?_getD, hi]
    rw [ht]
    obtain ⟨x, hx⟩ : ∃ x, x = xs.getD i 0 := ⟨_, rfl⟩
    rw [← hx] at a2 ⊢
    have hnode : R Zj [.ptr g 0, .int .i64 x] H1 = some (.tup [.agg (ndF ns x).cs, .bool (nodeS ns x).isSome], H1) := by
      obtain ⟨o1, o2, o3, t, -⟩ := G.keeps k
      exact node_run t
    rw [List.map_append, show flat ((xs.take i).map (ndF ns) ++ [x].map (ndF ns)) = flat ((xs.take i).map (ndF ns)) ++ (ndF ns x).cs by simp [flat]]
    obtain ⟨n, hn⟩ : ∃ n, n = ndF ns x := ⟨_, rfl⟩
    rw [← hn] at hnode ⊢
    simp only [Nd.parts'] at hnode ⊢
    simp (maxDischargeDepth := 40) [hf, e0, e7, f8, f6, hlen, c1, a1, a2, hnode]
    generalize hA : appU _ _ _ _ = q
    have kA : Keeps H1 ((H1.new (.cells [.int .i64 0, .int .i64 0, .int .i64 0, .int .i64 0, .int .i64 0, .int .i64 0, .int .i64 0, .int .i64 0, u 0#64, u 0#64, .str .empty])).set H1.size (.cells [.int .i64 n.op, .int .i64 n.sort, .int .i64 n.a, .int .i64 n.b, .int .i64 n.c, .int .i64 n.p, .int .i64 n.q, .int .i64 n.vw, u n.vl, u n.vh, .str n.name])) := by ((repeat (first | exact Keeps.refl _ | assumption | refine Keeps.new' ?_ _ | refine Keeps.set ?_ ?_ _)) <;> (first | assumption | (simp; done) | (simp; omega)))
    obtain ⟨v', H', rfl, o2, k2, -⟩ := (hw.keep kA).push (k.trans kA) hA (by rfl) (by rfl) (by omega) (by omega) (by omega) (by rfl)
    simp (maxDischargeDepth := 40) [f8, w1]
    rw [List.map_take] at o2
    exact ⟨k2, o2⟩
  · rintro f H1 hf ⟨f8, k, w, f6, hw⟩
    rw [List.take_of_length_le (Nat.le_refl _)] at hw
    simp [hf, e7, f8, hlen]
    exact ⟨k, w, f6, hw⟩
theorem vnodes_len (ns : List Nd) : (vnodes ns).length ≤ ns.length := by
  unfold vnodes
  rw [List.length_map]
  exact varsT_len ns ns.length
theorem few_run {N : Int} {H : AHeap} {g : Nat} {most : Int} {ns : List Nd} {F : List Nat} (G : GT H g most ns F) (gk : Gok ns) :
    ∃ w, R Zc7 [.ptr g 0, .int .i64 N] H = some (.tup [w, .bool (decide (widthF N (vnodes ns) 0 ≤ N))], H) ∧ ∀ H', Reads H' w 11 (vnodes ns).length (flat (vnodes ns)) := by
  generalize hr : R Zc7 [.ptr g 0, .int .i64 N] H = r
  have hlim := G.lim
  have hvl := varsT_len ns ns.length
  obtain ⟨v, hv, hvr⟩ := vars_run2 G
  have hlen := (hvr H).len
  rw [Zip] at hr
  simp (maxDischargeDepth := 40) [Zg0, hv] at hr
  generalize hL : loopL _ _ _ _ _ _ = q at hr
  obtain ⟨y, e1, H1, rfl, ⟨rfl, k1, w, f6, hw⟩, fr⟩ := few_loop G (Keeps.refl H) hvr (by omega) hL (by simp) (by simp) (by simp) (by simp)
  have hvn : (varsT ns ns.length).map (ndF ns) = vnodes ns := rfl
  rw [hvn] at hw
  have hl2 : (varsT ns ns.length).length = (vnodes ns).length := by rw [← hvn, List.length_map]
  rw [hl2] at hw
  have hwd := width_run (N := N) hw.rd (by omega) (fun n hn => by
    obtain ⟨h1, h2⟩ := vnodes_mem.1 hn
    have hso := gk.sort h1 h2
    unfold isSort at hso
    exact of_decide_eq_true hso)
  simp (maxDischargeDepth := 40) [fr, f6, hwd] at hr
  obtain ⟨w', b1, b2⟩ := back_outB (b := decide (widthF N (vnodes ns) 0 ≤ N)) k1 hw (closed_flat _)
  rw [b1] at hr
  exact ⟨w', hr.symm, b2⟩
theorem nth_loop {H : AHeap} {v : AV} {l : List Nd} (hv : ∀ H', Reads H' v 11 l.length (flat l)) (hl : l.length ≤ 5000) (hs : ∀ n, n ∈ l → 0 ≤ n.sort ∧ n.sort ≤ 9) {k : Int} {e : Env} {r : Rn} (hL : loopL Try.prog KT R Zdp e H = r)
    (e0 : e 0 = some v) (e1 : e 1 = some (.int .i64 k)) (e5 : e 5 = some .nils) (e6 : e 6 = some (.int .i64 0)) :
    ∃ y e' H', r = some (y, e', H') ∧ (y = .exit 0 ∧ Keeps H H' ∧ ∃ w, e' 5 = some w ∧ OutC H H' w 4 l.length (flatN (nthL l k))) ∧ ∀ t, t ∉ defs Zdp → e' t = e t := by
  have hlen0 := (hv H).len
  refine loop_count Zdp.eq_1 hL l.length (fun i e1 H1 => e1 6 = some (.int .i64 i) ∧ Keeps H H1 ∧ ∃ w k' done, e1 5 = some w ∧ OutC H H1 w 4 i (flatN done) ∧ e1 1 = some (.int .i64 k') ∧ nthL l k = done ++ nthL (l.drop i) k') _ 0 (by omega) ⟨e6, Keeps.refl _, .nils, k, [], e5, OutC.nils, e1, by simp⟩ ?_ ?_
  · rintro i f H1 hf - hi ⟨f6, k1, w, k', done, f5, hw, f1, hd⟩
    have w1 : IntKind.i64.wrap ((i : Int) + 1) = (i : Int) + 1 := i64w (by omega) (by omega)
    have c1 : (i : Int) < l.length := by omega
    obtain ⟨n, hn⟩ : ∃ n, l[i]? = some n := ⟨l[i], by simp [hi]⟩
    obtain ⟨s0, s1⟩ := hs n (List.mem_of_getElem? hn)
    have hdrop : l.drop i = n :: l.drop (i + 1) := by
      rw [List.drop_eq_getElem_cons hi]
      rw [List.getElem?_eq_getElem hi] at hn
      cases hn
      rfl
    rw [hdrop] at hd
    rw [show nthL (n :: l.drop (i + 1)) k' = ⟨n.name, maskV n.sort k'⟩ :: nthL (l.drop (i + 1)) (k'.fdiv (2 ^ (min (max n.sort 1).toNat 64))) from rfl] at hd
    have hmk : (maskV n.sort k').cs = [.int .i64 n.sort, u (BitVec.ofInt 64 k' &&& ((1#64 <<< (max n.sort 1).toNat) - 1#64)), u 0#64] := by
      unfold maskV Vl.cs
      simp only [lo_mk, hi_mk]
    obtain ⟨mx, hmx⟩ : ∃ mx, mx = max n.sort 1 := ⟨_, rfl⟩
    have m0 : 0 ≤ mx := by omega
    have m1 : ¬ mx < 0 := by omega
    rw [← hmx] at hd hmk
    have hcs : (⟨n.name, maskV n.sort k'⟩ : Nm).cs = [.str n.name, .int .i64 n.sort, u (BitVec.ofInt 64 k' &&& ((1#64 <<< mx.toNat) - 1#64)), u 0#64] := by
      unfold Nm.cs
      rw [hmk]
    rcases nd_fldA hv hn with ⟨o, off, q1, q2, q3⟩ | ⟨cs, off, q1, q2, q3⟩ <;>
    · simp (maxDischargeDepth := 40) [hf, e0, f1, f5, f6, c1, hlen0, q1, q2, q3, ← hmx, m0, m1]
      generalize hA : appU _ _ _ _ = q
      have kA : Keeps H1 ((H1.new (.cells [.int .i64 0, u 0#64, u 0#64])).set H1.size (.cells [.int .i64 n.sort, u (BitVec.ofInt 64 k' &&& ((1#64 <<< mx.toNat) - 1#64)), u 0#64])) := by ((repeat (first | exact Keeps.refl _ | assumption | refine Keeps.new' ?_ _ | refine Keeps.set ?_ ?_ _)) <;> (first | assumption | (simp; done) | (simp; omega)))
      obtain ⟨v', H', rfl, o2, k2, -⟩ := (hw.keep kA).push (k1.trans kA) hA (by rfl) (by rfl) (by omega) (by omega) (by omega) (by rfl)
      rw [← hcs] at o2
      simp (maxDischargeDepth := 40) [f6, w1]
      refine ⟨k2, k'.fdiv (2 ^ min mx.toNat 64), done ++ [⟨n.name, maskV n.sort k'⟩], by rw [flatN_append]; simpa [flatN] using o2, rfl, ?_⟩
      rw [hd, List.append_assoc]
      rfl
  · rintro f H1 hf ⟨f6, k1, w, k', done, f5, hw, f1, hd⟩
    simp [hf, e0, f6, hlen0, f5]
    rw [hd, List.drop_length]
    refine ⟨k1, ?_⟩
    rw [show nthL [] k' = [] from rfl, List.append_nil]
    exact hw
theorem nth_run {H : AHeap} {v : AV} {l : List Nd} (hv : ∀ H', Reads H' v 11 l.length (flat l)) (hl : l.length ≤ 5000) (hs : ∀ n, n ∈ l → 0 ≤ n.sort ∧ n.sort ≤ 9) {k : Int} :
    ∃ w, R Zc8 [v, .int .i64 k] H = some (w, H) ∧ ∀ H', RN H' w (nthL l k) := by
  generalize hr : R Zc8 [v, .int .i64 k] H = r
  rw [Zis] at hr
  simp (maxDischargeDepth := 40) [Zg2] at hr
  generalize hL : loopL _ _ _ _ _ _ = q at hr
  obtain ⟨y, e1, H1, rfl, ⟨rfl, k1, w, f5, hw⟩, fr⟩ := nth_loop (k := k) hv hl hs hL (by simp) (by simp) (by simp) (by simp)
  simp (maxDischargeDepth := 40) [f5] at hr
  obtain ⟨w', b1, b2⟩ := back_out k1 hw (closed_flatN _)
  rw [b1] at hr
  refine ⟨w', hr.symm, fun H' => ?_⟩
  unfold RN
  rw [nthL_len]
  exact b2 H'
end Go.Proofs.Ytiobohfiaapgeaa
end
section
namespace Go.Proofs.Ytiobohfiaapgeaa
set_option maxRecDepth 100000
def r1 : Nd := ⟨2, 4, 0, 0, 0, 0, 0, 0, 0#64, 0#64, ⟨#[120]⟩⟩
def r2 : Nd := ⟨1, 4, 0, 0, 0, 0, 0, 4, 3#64, 0#64, .empty⟩
def r3 : Nd := ⟨1, 4, 0, 0, 0, 0, 0, 4, 0#64, 0#64, .empty⟩
def r4 : Nd := ⟨20, 0, 2, 3, 0, 0, 0, 0, 0#64, 0#64, .empty⟩
def r4' : Nd := ⟨20, 4, 2, 3, 0, 0, 0, 0, 0#64, 0#64, .empty⟩
def r5 : Nd := ⟨18, 0, 1, 4, 0, 0, 0, 0, 0#64, 0#64, .empty⟩
def r5' : Nd := ⟨18, 4, 1, 4, 0, 0, 0, 0, 0#64, 0#64, .empty⟩
def r6 : Nd := ⟨8, 0, 1, 1, 0, 0, 0, 0, 0#64, 0#64, .empty⟩
def r7 : Nd := ⟨1, 0, 0, 0, 0, 0, 0, 0, 1#64, 0#64, .empty⟩
theorem rmk1 : makT 50 [] r1 = ([r1], 1, 0) := by decide
theorem rmk2 : makT 50 [r1] r2 = ([r1, r2], 2, 0) := by decide
theorem rmk3 : makT 50 [r1, r2] r3 = ([r1, r2, r3], 3, 0) := by decide
theorem rmk4 : makT 50 [r1, r2, r3] r4 = ([r1, r2, r3, r4'], 4, 0) := by decide
theorem rmk5 : makT 50 [r1, r2, r3, r4'] r5 = ([r1, r2, r3, r4', r5'], 5, 0) := by decide
theorem rmk6 : makT 50 [r1, r2, r3, r4', r5'] r6 = ([r1, r2, r3, r4', r5', r6], 6, 0) := by decide
theorem rsim5 : simT 50 60 [r1, r2, r3, r4', r5', r6] 5 = ([r1, r2, r3, r4', r5', r6], 1, 0) := by decide
theorem rsim6 : simT 50 60 [r1, r2, r3, r4', r5', r6] 6 = ([r1, r2, r3, r4', r5', r6, r7], 7, 0) := by decide
theorem rsim99 : simT 50 60 [r1, r2, r3, r4', r5', r6, r7] 99 = ([r1, r2, r3, r4', r5', r6, r7], 0, 70) := by decide
theorem rcone5 : coneT [r1, r2, r3, r4', r5', r6, r7] 5 = [1, 2, 3, 4, 5] := by decide
theorem rnode7 : ndF [r1, r2, r3, r4', r5', r6, r7] 7 = r7 := by decide
theorem rgok6 : Gok [r1, r2, r3, r4', r5', r6] := by
  have a1 := Gok.nil.make (most := 50) (n := r1)
  rw [rmk1] at a1
  have a2 := a1.make (most := 50) (n := r2)
  rw [rmk2] at a2
  have a3 := a2.make (most := 50) (n := r3)
  rw [rmk3] at a3
  have a4 := a3.make (most := 50) (n := r4)
  rw [rmk4] at a4
  have a5 := a4.make (most := 50) (n := r5)
  rw [rmk5] at a5
  have a6 := a5.make (most := 50) (n := r6)
  rw [rmk6] at a6
  exact a6
theorem rgok7 : Gok [r1, r2, r3, r4', r5', r6, r7] := by
  have a6 := rgok6.make (most := 50) (n := r7)
  rw [show makT 50 [r1, r2, r3, r4', r5', r6] r7 = ([r1, r2, r3, r4', r5', r6, r7], 7, 0) by decide] at a6
  exact a6
end Go.Proofs.Ytiobohfiaapgeaa
end
section
namespace Go.Proofs.Ytiobohfiaapgeaa
set_option maxRecDepth 100000
set_option maxHeartbeats 2000000
theorem tmod_cases (k n : Int) (hn : 0 < n) : (k.tmod n < 0 → k % n = k.tmod n + n) ∧ (¬ k.tmod n < 0 → k % n = k.tmod n) ∧ k.tmod n < n ∧ - n < k.tmod n := by
  have h := Int.tmod_eq_emod (a := k) (b := n)
  have h1 := Int.emod_nonneg k (by omega : n ≠ 0)
  have h2 := Int.emod_lt_of_pos k hn
  rw [h]
  split
  · simp; omega
  · rename_i hh
    have : (n.natAbs : Int) = n := by omega
    rw [this]
    refine ⟨by omega, ?_, by omega, ?_⟩
    · intro hx; omega
    · have : ¬ k % n = 0 := by
        intro h0; exact hh (Or.inr (Int.dvd_of_emod_eq_zero h0))
      omega
theorem place_run {k n : Int} (hn : 0 < n) (hn2 : n ≤ 1000000) {H : AHeap} : R Zcd [.int .i64 k, .int .i64 n] H = some (.int .i64 (k % n), H) := by
  rw [Zhy]
  obtain ⟨q1, q2, q3, q4⟩ := tmod_cases k n hn
  have h0 : ¬ n = 0 := by omega
  by_cases c : k.tmod n < 0
  · have hw2 : IntKind.i64.wrap (k.tmod n + n) = k.tmod n + n := i64w (by omega) (by omega)
    simp (maxDischargeDepth := 40) [Zff, h0, c, hw2, q1 c]
  · simp (maxDischargeDepth := 40) [Zff, h0, c, q2 c]
end Go.Proofs.Ytiobohfiaapgeaa
end
section
namespace Go.Proofs.Ytiobohfiaapgeaa
set_option maxRecDepth 100000
set_option maxHeartbeats 4000000
structure Sg (H H' : AHeap) (g : Nat) (most : Int) (ns : List Nd) (F : List Nat) : Prop where
  G : GT H' g most ns F
  k : Keeps H H'
  new : ∀ p, p ∈ F → H.size ≤ p
section
variable {H H1 : AHeap} {g : Nat} {most : Int} {ns : List Nd} {F : List Nat}
theorem Sg.keep {H2 : AHeap} (S : Sg H H1 g most ns F) (k : Keeps H1 H2) : Sg H H2 g most ns F := ⟨S.G.keeps k, S.k.trans k, S.new⟩
theorem Sg.make (S : Sg H H1 g most ns F) {n : Nd} {js : List Nd} {x er : Int} (hmk : makT most ns n = (js, x, er)) {q : Option (AV × AHeap)} (hN : R Zl [.ptr g 0, .agg n.cs] H1 = q) :
    ∃ H2 F2, q = some (.tup [.int .i64 x, .int .i64 er], H2) ∧ Sg H H2 g most js F2 := by
  obtain ⟨H2, F2, rfl, g2, m2⟩ := GvT.go S.G hmk hN
  refine ⟨H2, F2, rfl, g2, m2.fr.keeps S.k S.new, fun p hp => ?_⟩
  have := S.k.size
  rcases m2.new p hp with h | h
  · exact S.new p h
  · omega
theorem Sg.simp (S : Sg H H1 g most ns F) (gk : Gok ns) {f : Nat} (hf : most + 2 ≤ f) {id : Int} {q : Option (AV × AHeap)} (hN : R Zu [.ptr g 0, .int .i64 id] H1 = q) :
    ∃ H2 F2 js, q = some (.tup [.int .i64 (simT most f ns id).2.1, .int .i64 (simT most f ns id).2.2], H2) ∧ Sg H H2 g most js F2 ∧ Fr F H1 H2 ∧ ((simT most f ns id).2.2 = 0 → js = (simT most f ns id).1) := by
  obtain ⟨H2, F2, js, rfl, g2, k2, n2, ok⟩ := simplify_run S.G gk hf hN
  refine ⟨H2, F2, js, rfl, ⟨g2, k2.keeps S.k S.new, fun p hp => ?_⟩, k2, ok⟩
  have := S.k.size
  rcases n2 p hp with h | h
  · exact S.new p h
  · omega
theorem Sg.node (S : Sg H H1 g most ns F) (id : Int) : R Zj [.ptr g 0, .int .i64 id] H1 = some (.tup [.agg (ndF ns id).cs, .bool (nodeS ns id).isSome], H1) := by
  obtain ⟨o1, o2, o3, t, -⟩ := S.G
  exact node_run t
theorem node_yes {ns : List Nd} {id : Int} (h1 : 1 ≤ id) (h2 : id ≤ ns.length) : (nodeS ns id).isSome = true := by
  obtain ⟨i, hi, hni⟩ := nd_at h1 h2
  unfold nodeS
  rw [if_neg (by omega), show (id - 1).toNat = i by omega, hni]
  rfl
theorem weight_run (G : GT H1 g most ns F) {id : Int} (h1 : 1 ≤ id) (h2 : id ≤ ns.length) : R Zdc [.ptr g 0, .int .i64 id] H1 = some (.tup [.int .i64 (coneT ns id).length, .int .i64 0], H1) := by
  rw [Zid]
  have hn : R Zj [.ptr g 0, .int .i64 id] H1 = some (.tup [.agg (ndF ns id).cs, .bool true], H1) := by
    have hy := node_yes h1 h2
    obtain ⟨o1, o2, o3, t, -⟩ := G
    rw [← hy]
    exact node_run t
  obtain ⟨x, hx⟩ : ∃ x, x = ndF ns id := ⟨_, rfl⟩
  rw [← hx] at hn
  have kX : Keeps H1 ((H1.new (.cells Nd.zero.cs)).set H1.size (.cells x.cs)) := by ((repeat (first | exact Keeps.refl _ | assumption | refine Keeps.new' ?_ _ | refine Keeps.set ?_ ?_ _)) <;> (first | assumption | (simp; done) | (simp; omega)))
  obtain ⟨v, hc, hv⟩ := cone_run2 (G.keeps kX) (id := id)
  have hlen := (hv H1).len
  simp only [Nd.parts'] at hc hn
  simp (maxDischargeDepth := 40) [Nd.zero] at hc
  simp (maxDischargeDepth := 40) [Zgw, hn, hc, hlen]
end
theorem known7_run {H : AHeap} : R Zcc [] H = some (.bool true, H) := by
  generalize h : R Zcc [] H = r
  rw [Zhx] at h
  simp (maxDischargeDepth := 40) [Zgl] at h
  generalize hN : R Zfd _ _ = q at h
  obtain ⟨H1, g, F1, rfl, g1, k1, f1⟩ := tnew_run hN
  rw [show min (max (50 : Int) 1) 4096 = 50 from by decide] at g1
  have S1 : Sg H H1 g 50 [] F1 := ⟨g1, k1, f1⟩
  simp (maxDischargeDepth := 40) at h
  generalize hN : R Zl _ _ = q at h
  obtain ⟨H2, F2, rfl, S2⟩ := S1.make (n := r1) rmk1 hN
  simp (maxDischargeDepth := 40) at h
  generalize hN : R Zl _ _ = q at h
  obtain ⟨H3, F3, rfl, S3⟩ := S2.make (n := r2) rmk2 hN
  simp (maxDischargeDepth := 40) at h
  generalize hN : R Zl _ _ = q at h
  obtain ⟨H4, F4, rfl, S4⟩ := S3.make (n := r3) rmk3 hN
  simp (maxDischargeDepth := 40) at h
  generalize hN : R Zl _ _ = q at h
  obtain ⟨H5, F5, rfl, S5⟩ := S4.make (n := r4) rmk4 hN
  simp (maxDischargeDepth := 40) at h
  generalize hN : R Zl _ _ = q at h
  obtain ⟨H6, F6, rfl, S6⟩ := S5.make (n := r5) rmk5 hN
  simp (maxDischargeDepth := 40) at h
  generalize hN : R Zl _ _ = q at h
  obtain ⟨H7, F7, rfl, S7⟩ := S6.make (n := r6) rmk6 hN
  simp (maxDischargeDepth := 40) at h
  generalize hN : R Zu _ _ = q at h
  obtain ⟨H8, F8, js, rfl, S8, -, ok8⟩ := S7.simp rgok6 (f := 60) (by decide) hN
  rw [rsim5] at h ok8
  obtain rfl := ok8 rfl
  simp (maxDischargeDepth := 40) at h
  generalize hN : R Zu _ _ = q at h
  obtain ⟨H9, F9, js, rfl, S9, -, ok9⟩ := S8.simp rgok6 (f := 60) (by decide) hN
  rw [rsim6] at h ok9
  obtain rfl := ok9 rfl
  have hnode := S9.node 7
  rw [rnode7, show (nodeS [r1, r2, r3, r4', r5', r6, r7] 7).isSome = true by decide] at hnode
  simp only [Nd.cs, r7] at hnode
  obtain ⟨HX, hX⟩ : ∃ HX, HX = (H9.new (.cells [.int .i64 0, .int .i64 0, .int .i64 0, .int .i64 0, .int .i64 0, .int .i64 0, .int .i64 0, .int .i64 0, u 0#64, u 0#64, .str .empty])).set H9.size (.cells [.int .i64 1, .int .i64 0, .int .i64 0, .int .i64 0, .int .i64 0, .int .i64 0, .int .i64 0, .int .i64 0, u 1#64, u 0#64, .str .empty]) := ⟨_, rfl⟩
  have kX : Keeps H9 HX := by rw [hX]; ((repeat (first | exact Keeps.refl _ | assumption | refine Keeps.new' ?_ _ | refine Keeps.set ?_ ?_ _)) <;> (first | assumption | (simp; done) | (simp; omega)))
  have oX : HX.obj H9.size = (.cells [.int .i64 1, .int .i64 0, .int .i64 0, .int .i64 0, .int .i64 0, .int .i64 0, .int .i64 0, .int .i64 0, u 1#64, u 0#64, .str .empty]) := by rw [hX]; simp
  have lX : H9.size < HX.size := by rw [hX]; simp
  have S10 := S9.keep kX
  have hwt := weight_run S10.G (id := 5) (by decide) (by decide)
  rw [rcone5] at hwt
  obtain ⟨q, hq⟩ : ∃ q, q = R Zu [.ptr g 0, .int .i64 99] HX := ⟨_, rfl⟩
  obtain ⟨H11, F11, js, hq2, S11, k11, -⟩ := S10.simp rgok7 (f := 60) (by decide) hq.symm
  rw [rsim99] at hq2
  have hsi : R Zu [.ptr g 0, .int .i64 99] HX = some (.tup [.int .i64 0, .int .i64 70], H11) := by rw [← hq]; exact hq2
  have o11 : H11.obj H9.size = (.cells [.int .i64 1, .int .i64 0, .int .i64 0, .int .i64 0, .int .i64 0, .int .i64 0, .int .i64 0, .int .i64 0, u 1#64, u 0#64, .str .empty]) := by
    rw [k11.obj _ lX (fun hp => by have := S9.G.ltF hp; omega)]
    exact oX
  have l11 := k11.lt lX
  simp (maxDischargeDepth := 40) [hnode, ← hX] at h
  simp (maxDischargeDepth := 40) [hwt, hsi, o11, S11.k] at h
  exact h.symm
end Go.Proofs.Ytiobohfiaapgeaa
end
section
namespace Go.Proofs.Ytiobohfiaapgeaa
set_option maxRecDepth 100000
set_option maxHeartbeats 4000000
theorem widthF_nonneg {most : Int} : ∀ (l : List Nd) (a : Int), 0 ≤ a → 0 ≤ widthF most l a
  | [], a, h => h
  | n :: l, a, h => by
    rw [widthF_cons]
    split
    · exact widthF_nonneg l _ (by omega)
    · exact h
theorem means_loop {H : AHeap} {g : Nat} {ns ms : List Nd} {F : List Nat} (G : GT H g 4096 ms F) (gm : Gok ms) (gk : Gok ns) {id k : Int} (hw : widthF 9 (vnodes ns) 0 ≤ 9) {v : AV} (hv : ∀ H', Reads H' v 11 (vnodes ns).length (flat (vnodes ns))) (hl : ns.length ≤ 4096)
    (hval : ∀ look, AllFit look ns → worthS look ms k = (V look ns id, 0) ∧ worthS look ms id = (V look ns id, 0)) {e : Env} {r : Rn} (hL : loopL Try.prog KT R Zb5 e H = r)
    (e1 : e 1 = some (.int .i64 id)) (e7 : e 7 = some (.ptr g 0)) (e9 : e 9 = some v) (e11 : e 11 = some (.int .i64 k)) (e22 : e 22 = some (.int .i64 0)) :
    ∃ y e' H', r = some (y, e', H') ∧ (y = .exit 0 ∧ Keeps H H') ∧ ∀ t, t ∉ defs Zb5 → e' t = e t := by
  have hso : ∀ n, n ∈ vnodes ns → 0 ≤ n.sort ∧ n.sort ≤ 128 := fun n hn => by
    obtain ⟨h1, h2⟩ := vnodes_mem.1 hn
    have hso := gk.sort h1 h2
    unfold isSort at hso
    exact of_decide_eq_true hso
  obtain ⟨-, hs9⟩ := widthF_few (vnodes ns) 0 (by omega) hw
  have h0 := widthF_nonneg (most := 9) (vnodes ns) 0 (by omega)
  have hvl := vnodes_len ns
  have hwd := fun H' => width_run (N := 9) (H := H') (hv H') (by omega) hso
  obtain ⟨W, hW⟩ : ∃ W, W = widthF 9 (vnodes ns) 0 := ⟨_, rfl⟩
  rw [← hW] at hwd h0 hw
  have hnth := fun H' (k : Int) => nth_run (H := H') hv (by omega) (fun n hn => ⟨(hso n hn).1, hs9 n hn⟩) (k := k)
  obtain ⟨B, hB⟩ : ∃ B : Nat, B = 2 ^ W.toNat := ⟨_, rfl⟩
  have hB2 : B ≤ 512 := by
    have : W.toNat ≤ 9 := by omega
    rw [hB]
    exact Nat.le_trans (Nat.pow_le_pow_right (by omega) this) (by decide)
  have hWn : ¬ W < 0 := by omega
  have hsh : IntKind.i64.wrap (2 ^ (min W.toNat 64)) = (B : Int) := by
    rw [Nat.min_eq_left (by omega : W.toNat ≤ 64)]
    have e : (2 : Int) ^ W.toNat = (B : Int) := by rw [hB]; simp
    rw [e]
    exact i64w (by omega) (by omega)
  refine loop_count Zb5.eq_1 hL B (fun i e1 H1 => e1 22 = some (.int .i64 i) ∧ Keeps H H1) _ 0 (Nat.zero_le _) ⟨e22, Keeps.refl _⟩ ?_ ?_
  · rintro i f H1 hf - hi ⟨f22, k1⟩
    have w1 : IntKind.i64.wrap ((i : Int) + 1) = (i : Int) + 1 := i64w (by omega) (by omega)
    have c1 : (i : Int) < B := by omega
    obtain ⟨w, hn, hr⟩ := hnth H1 i
    have hfit := nth_fit gk (k := i) hs9
    obtain ⟨x1, x2⟩ := hval _ hfit
    have hev := fun (H' : AHeap) (kk : Keeps H1 H') (j : Int) => eval_run ((G.keeps k1).keeps kk) gm (hr H') (by rw [nthL_len]; omega) (id := j)
    have v1 := hev H1 (Keeps.refl _) id
    have v2 := fun (x : AObj) (y : AObj) => hev ((H1.new x).set H1.size y) (by ((repeat (first | exact Keeps.refl _ | assumption | refine Keeps.new' ?_ _ | refine Keeps.set ?_ ?_ _)) <;> (first | assumption | (simp; done) | (simp; omega)))) k
    rw [x2] at v1
    simp only [x1] at v2
    simp (maxDischargeDepth := 40) [hf, e1, e7, e9, e11, f22, hwd, hWn, hsh, c1, hn, v1, v2, w1]
    exact k1.trans (by ((repeat (first | exact Keeps.refl _ | assumption | refine Keeps.new' ?_ _ | refine Keeps.set ?_ ?_ _)) <;> (first | assumption | (simp; done) | (simp; omega))))
  · rintro f H1 hf ⟨f22, k1⟩
    simp (maxDischargeDepth := 40) [hf, f22, e9, hwd, hWn, hsh]
    exact k1
theorem AllFit.less {look : ByteArray → Option Vl} {ns t : List Nd} (h : AllFit look (ns ++ t)) : AllFit look ns := fun i n hn h2 => h i n (by rw [List.getElem?_append_left (List.getElem?_eq_some_iff.1 hn).1]; exact hn) h2
theorem means_run {H : AHeap} {l : List Nd} {id : Int} {s : AV} {env : List Nm} (hs : ∀ H, RN H s env) : R Zbv [NL l, .int .i64 id, s] H = some (.bool true, H) := by
  generalize h : R Zbv [NL l, .int .i64 id, s] H = r
  rw [Zgk] at h
  have hle := (hs H).len
  have hkn := fun H => known7_run (H := H)
  simp (maxDischargeDepth := 40) [Ze3, hkn] at h
  generalize hM : R Zcm _ _ = q at h
  rcases made7_run hM with ⟨p, rfl⟩ | ⟨g, ns, F, H1, rfl, G1, k1, f1, gok, h60⟩
  · simp at h; exact h.symm
  by_cases c0 : 0 < ns.length
  rotate_left
  · simp (maxDischargeDepth := 40) [c0, k1] at h; exact h.symm
  by_cases c40 : (40 : Int) < env.length
  · simp (maxDischargeDepth := 40) [c0, hle, c40, k1] at h; exact h.symm
  have hl1 : R Z9 [.ptr g 0] H1 = some (.int .i64 ns.length, H1) := by
    obtain ⟨o1, o2, o3, t, -⟩ := G1
    exact len_run t
  have hpl := fun H => place_run (k := id) (n := ns.length) (by omega) (by omega) (H := H)
  have hm0 := Int.emod_nonneg id (by omega : (ns.length : Int) ≠ 0)
  have hm1 := Int.emod_lt_of_pos id (by omega : 0 < (ns.length : Int))
  have w1 : IntKind.i64.wrap (1 + id % ns.length) = 1 + id % ns.length := i64w (by omega) (by omega)
  obtain ⟨w, hfew, hw⟩ := few_run (N := 9) G1 gok
  simp (maxDischargeDepth := 40) [c0, hle, c40, hl1, hpl, w1, hfew] at h
  obtain ⟨J, hJ⟩ : ∃ J, J = 1 + id % (ns.length : Int) := ⟨_, rfl⟩
  rw [← hJ] at h
  have J1 : 1 ≤ J := by omega
  have J2 : J ≤ ns.length := by omega
  obtain ⟨f, hf⟩ : ∃ f : Nat, (4096 : Int) + 2 ≤ f := ⟨5000, by decide⟩
  have S1 : Sg H H1 g 4096 ns F := ⟨G1, k1, f1⟩
  generalize hN : R Zu _ _ = q at h
  obtain ⟨H2, F2, js, rfl, S2, k12, ok⟩ := S1.simp gok hf hN
  have hsim := simT_ok (most := 4096) (f := f) gok J1 J2 (Int.le_refl _) (by omega) hf
  obtain ⟨X, hX⟩ : ∃ X, X = simT 4096 f ns J := ⟨_, rfl⟩
  rw [← hX] at h ok hsim
  have n1 := S2.node J
  obtain ⟨x, hx⟩ : ∃ x, x = ndF js J := ⟨_, rfl⟩
  obtain ⟨y, hy⟩ : ∃ y, y = ndF js X.2.1 := ⟨_, rfl⟩
  have kA : Keeps H2 ((H2.new (.cells [.int .i64 0, .int .i64 0, .int .i64 0, .int .i64 0, .int .i64 0, .int .i64 0, .int .i64 0, .int .i64 0, u 0#64, u 0#64, .str .empty])).set H2.size (.cells [.int .i64 x.op, .int .i64 x.sort, .int .i64 x.a, .int .i64 x.b, .int .i64 x.c, .int .i64 x.p, .int .i64 x.q, .int .i64 x.vw, u x.vl, u x.vh, .str x.name])) := by ((repeat (first | exact Keeps.refl _ | assumption | refine Keeps.new' ?_ _ | refine Keeps.set ?_ ?_ _)) <;> (first | assumption | (simp; done) | (simp; omega)))
  have n2 := (S2.keep kA).node X.2.1
  rw [← hx] at n1
  rw [← hy] at n2
  simp only [Nd.parts'] at n1 n2
  obtain ⟨KB, hKB⟩ : ∃ KB, KB = (((H2.new (.cells [.int .i64 0, .int .i64 0, .int .i64 0, .int .i64 0, .int .i64 0, .int .i64 0, .int .i64 0, .int .i64 0, u 0#64, u 0#64, .str .empty])).set H2.size (.cells [.int .i64 x.op, .int .i64 x.sort, .int .i64 x.a, .int .i64 x.b, .int .i64 x.c, .int .i64 x.p, .int .i64 x.q, .int .i64 x.vw, u x.vl, u x.vh, .str x.name])).new (.cells [.int .i64 0, .int .i64 0, .int .i64 0, .int .i64 0, .int .i64 0, .int .i64 0, .int .i64 0, .int .i64 0, u 0#64, u 0#64, .str .empty])).set (H2.size + 1) (.cells [.int .i64 y.op, .int .i64 y.sort, .int .i64 y.a, .int .i64 y.b, .int .i64 y.c, .int .i64 y.p, .int .i64 y.q, .int .i64 y.vw, u y.vl, u y.vh, .str y.name]) := ⟨_, rfl⟩
  have kB : Keeps H2 KB := by rw [hKB]; ((repeat (first | exact Keeps.refl _ | assumption | refine Keeps.new' ?_ _ | refine Keeps.set ?_ ?_ _)) <;> (first | assumption | (simp; done) | (simp; omega)))
  have S3 := S2.keep kB
  rcases hsim with ⟨h0, S⟩ | h33
  rotate_left
  · simp (maxDischargeDepth := 40) [n1, n2, h33, ← hKB, S3.k] at h
    exact h.symm
  obtain rfl := ok h0
  have y1 := node_yes S.lo S.hi
  have hss : y.sort = x.sort := by
    obtain ⟨t, ht, -⟩ := S.more
    rw [hy, hx, S.srt]
    rw [ht, ndF_more J1 J2]
  have hjs := S2.G.lim
  obtain ⟨KC, hKC⟩ : ∃ KC, KC = (((H2.new (.cells [.int .i64 0, .int .i64 0, .int .i64 0, .int .i64 0, .int .i64 0, .int .i64 0, .int .i64 0, .int .i64 0, u 0#64, u 0#64, .str .empty])).set H2.size (.cells [.int .i64 x.op, .int .i64 x.sort, .int .i64 x.a, .int .i64 x.b, .int .i64 x.c, .int .i64 x.p, .int .i64 x.q, .int .i64 x.vw, u x.vl, u x.vh, .str x.name])).new (.cells [.int .i64 0, .int .i64 0, .int .i64 0, .int .i64 0, .int .i64 0, .int .i64 0, .int .i64 0, .int .i64 0, u 0#64, u 0#64, .str .empty])).set (H2.size + 1) (.cells [.int .i64 y.op, .int .i64 x.sort, .int .i64 y.a, .int .i64 y.b, .int .i64 y.c, .int .i64 y.p, .int .i64 y.q, .int .i64 y.vw, u y.vl, u y.vh, .str y.name]) := ⟨_, rfl⟩
  have oK1 : KC.obj H2.size = (.cells [.int .i64 x.op, .int .i64 x.sort, .int .i64 x.a, .int .i64 x.b, .int .i64 x.c, .int .i64 x.p, .int .i64 x.q, .int .i64 x.vw, u x.vl, u x.vh, .str x.name]) := by rw [hKC]; simp
  have oK2 : KC.obj (H2.size + 1) = (.cells [.int .i64 y.op, .int .i64 x.sort, .int .i64 y.a, .int .i64 y.b, .int .i64 y.c, .int .i64 y.p, .int .i64 y.q, .int .i64 y.vw, u y.vl, u y.vh, .str y.name]) := by rw [hKC]; simp
  have lK1 : H2.size < KC.size := by rw [hKC]; simp
  have lK2 : H2.size + 1 < KC.size := by rw [hKC]; simp
  have kC : Keeps H2 KC := by rw [hKC]; ((repeat (first | exact Keeps.refl _ | assumption | refine Keeps.new' ?_ _ | refine Keeps.set ?_ ?_ _)) <;> (first | assumption | (simp; done) | (simp; omega)))
  have S4 := S2.keep kC
  rw [y1] at n2
  have hval : ∀ look, AllFit look ns → worthS look X.1 X.2.1 = (V look ns J, 0) ∧ worthS look X.1 J = (V look ns J, 0) := fun look hA => worth_simp gok S J1 J2 hA
  by_cases cw : widthF 9 (vnodes ns) 0 ≤ 9
  · simp (maxDischargeDepth := 40) [n1, n2, h0, hss, cw, ← hKC, oK1, oK2] at h
    generalize hL : loopL _ _ _ _ _ _ = q at h
    obtain ⟨yy, e1, H4, rfl, ⟨rfl, k4⟩, fr⟩ := means_loop S4.G S.gok gok cw hw (by omega) hval hL (by simp) (by simp) (by simp) (by simp) (by simp)
    simp (maxDischargeDepth := 40) [S4.k.trans k4] at h
    exact h.symm
  · obtain ⟨cv, hc, hcr⟩ := complete_run S4.G (hs KC) (by omega)
    obtain ⟨fl, hfl⟩ : ∃ fl, fl = fullS (lookL env) X.1 (varsT X.1 X.1.length) := ⟨_, rfl⟩
    have hfit := full_fit (look := lookL env) S.gok
    have hfll : fl.length ≤ 1000000 := by
      have := varsT_len X.1 X.1.length
      rw [hfl]
      unfold fullS
      rw [List.length_map]
      omega
    rw [← hfl] at hfit hcr
    have hfn : AllFit (lookL fl) ns := by
      obtain ⟨t, ht, -⟩ := S.more
      rw [ht] at hfit
      exact hfit.less
    obtain ⟨x1, x2⟩ := hval _ hfn
    have hev := fun (H' : AHeap) (kk : Keeps KC H') (j : Int) => eval_run (S4.G.keeps kk) S.gok (hcr H') hfll (id := j)
    have v1 := hev KC (Keeps.refl _) J
    have v2 := fun (x : AObj) (y : AObj) => hev ((KC.new x).set KC.size y) (by ((repeat (first | exact Keeps.refl _ | assumption | refine Keeps.new' ?_ _ | refine Keeps.set ?_ ?_ _)) <;> (first | assumption | (simp; done) | (simp; omega)))) X.2.1
    rw [x2] at v1
    simp only [x1] at v2
    have kE := fun (x y z t : AObj) => S4.k.trans (show Keeps KC ((((KC.new x).set KC.size y).new z).set (KC.size + 1) t) by ((repeat (first | exact Keeps.refl _ | assumption | refine Keeps.new' ?_ _ | refine Keeps.set ?_ ?_ _)) <;> (first | assumption | (simp; done) | (simp; omega))))
    simp (maxDischargeDepth := 40) [n1, n2, h0, hss, cw, ← hKC, oK1, oK2, hc, v1, v2, kE] at h
    exact h.symm
end Go.Proofs.Ytiobohfiaapgeaa
end
section
namespace Go.Proofs.Ytiobohfiaapgeaa
set_option maxRecDepth 100000
theorem tv_int {d : Nat} {a : AV} (h : TV Try.prog (d + 1) 3 a) : ∃ n, a = .int .i64 n ∧ -9223372036854775808 ≤ n ∧ n ≤ 9223372036854775807 := tv_i64 Try.underlying3 h
theorem cs3 {cs : List AV} (h : cs.length = 3) : ∃ x0 x1 x2, cs = [x0, x1, x2] := by
  match cs, h with
  | [x0, x1, x2], _ => exact ⟨x0, x1, x2, rfl⟩
theorem tc_bits {d : Nat} {cs : List AV} (h : TC Try.prog (d + 2) 37 cs) : ∃ v : Vl, cs = v.cs := by
  have c3 : Try.prog.cellsOf 37 = 3 := by kernel_rfl
  have c1 : Try.prog.cellsOf 3 = 1 := by kernel_rfl
  have cu : Try.prog.cellsOf 35 = 1 := by kernel_rfl
  obtain ⟨hl, hf⟩ := tc_struct Try.underlying37 h
  rw [c3] at hl
  obtain ⟨x0, x1, x2, rfl⟩ := cs3 hl
  simp [c1, cu] at hf
  obtain ⟨g0, g1, g2⟩ := hf
  obtain ⟨n0, e0, -⟩ := tc_i64 Try.underlying3 g0
  obtain ⟨y1, e1⟩ := tc_u64 Try.underlying35 g1
  obtain ⟨y2, e2⟩ := tc_u64 Try.underlying35 g2
  simp at e0 e1 e2
  exact ⟨⟨n0, mkN y1 y2⟩, by rw [e0, e1, e2, Vl.cs, lo_mk, hi_mk]⟩
theorem tv_bits {d : Nat} {a : AV} (h : TV Try.prog (d + 2) 37 a) : ∃ v : Vl, a = v.av := by
  obtain ⟨cs, rfl, h2⟩ := tv_struct Try.underlying37 h
  obtain ⟨v, rfl⟩ := tc_bits h2
  exact ⟨v, rfl⟩
theorem tv_vals {d : Nat} {a : AV} (h : TV Try.prog (d + 3) 86 a) : ∃ l : List Vl, ∀ H, RV H a l := by
  obtain ⟨n, ds, rfl, h2, h3, h4⟩ := tv_slice Try.underlying86 h
  have c3 : Try.prog.cellsOf 37 = 3 := by kernel_rfl
  rw [c3] at h2 h4
  obtain ⟨ss, e1, e2, -⟩ := chunks Vl.cs (fun _ => True) (fun _ => rfl) h2 fun i hi => by
    obtain ⟨v, hv⟩ := tc_bits (h4 i hi)
    exact ⟨v, trivial, hv⟩
  subst e2
  exact ⟨ss, fun H => by rw [c3]; subst e1; exact Reads.lst h2⟩
theorem ints_cells : ∀ ss : List Int, ss.flatMap (fun x : Int => [AV.int .i64 x]) = ss.map (.int .i64)
  | [] => rfl
  | x :: l => by rw [List.flatMap_cons, ints_cells l]; rfl
theorem tv_ints {d : Nat} {a : AV} (h : TV Try.prog (d + 2) 32 a) : ∃ l : List Int, (∀ H, RI H a l) ∧ ∀ x, x ∈ l → -9223372036854775808 ≤ x ∧ x ≤ 9223372036854775807 := by
  obtain ⟨n, ds, rfl, h2, h3, h4⟩ := tv_slice Try.underlying32 h
  have c1 : Try.prog.cellsOf 3 = 1 := by kernel_rfl
  rw [c1] at h2 h4
  obtain ⟨ss, e1, e2, e3⟩ := chunks (fun x : Int => [AV.int .i64 x]) (fun x => -9223372036854775808 ≤ x ∧ x ≤ 9223372036854775807) (fun _ => rfl) h2 fun i hi => by
    obtain ⟨n0, e0, b1, b2⟩ := tc_i64 Try.underlying3 (h4 i hi)
    exact ⟨n0, ⟨b1, b2⟩, e0⟩
  subst e2
  have e4 := ints_cells ss
  exact ⟨ss, fun H => by rw [c1]; subst e1; rw [e4] at h2 ⊢; exact Reads.lst h2, e3⟩
theorem cs4 {cs : List AV} (h : cs.length = 4) : ∃ x0 x1 x2 x3, cs = [x0, x1, x2, x3] := by
  match cs, h with
  | [x0, x1, x2, x3], _ => exact ⟨x0, x1, x2, x3, rfl⟩
theorem tv_named {d : Nat} {a : AV} (h : TV Try.prog (d + 4) 49 a) : ∃ l : List Nm, ∀ H, RN H a l := by
  obtain ⟨n, ds, rfl, h2, h3, h4⟩ := tv_slice Try.underlying49 h
  have c4 : Try.prog.cellsOf 77 = 4 := by kernel_rfl
  have c3 : Try.prog.cellsOf 37 = 3 := by kernel_rfl
  have c9 : Try.prog.cellsOf 9 = 1 := by kernel_rfl
  rw [c4] at h2 h4
  obtain ⟨ss, e1, e2, -⟩ := chunks Nm.cs (fun _ => True) (fun _ => rfl) h2 fun i hi => by
    have hs := h4 i hi
    generalize (ds.drop (i * 4)).take 4 = cs at hs
    obtain ⟨hl, hf⟩ := tc_struct Try.underlying77 hs
    rw [c4] at hl
    obtain ⟨x0, x1, x2, x3, rfl⟩ := cs4 hl
    simp [c3, c9] at hf
    obtain ⟨g0, g1⟩ := hf
    obtain ⟨s, e0, -⟩ := tc_str Try.underlying9 g0
    obtain ⟨v, hv⟩ := tc_bits g1
    simp at e0
    exact ⟨⟨s, v⟩, trivial, by rw [e0]; simp only [Nm.cs]; rw [← hv]⟩
  subst e2
  exact ⟨ss, fun H => by rw [c4]; subst e1; exact Reads.lst h2⟩
theorem cs11 {cs : List AV} (h : cs.length = 11) : ∃ x0 x1 x2 x3 x4 x5 x6 x7 x8 x9 x10, cs = [x0, x1, x2, x3, x4, x5, x6, x7, x8, x9, x10] := by
  match cs, h with
  | [x0, x1, x2, x3, x4, x5, x6, x7, x8, x9, x10], _ => exact ⟨x0, x1, x2, x3, x4, x5, x6, x7, x8, x9, x10, rfl⟩
theorem tc_node {d : Nat} {cs : List AV} (h : TC Try.prog (d + 3) 39 cs) : ∃ n : Nd, cs = n.cs := by
  have c11 : Try.prog.cellsOf 39 = 11 := by kernel_rfl
  have c1 : Try.prog.cellsOf 3 = 1 := by kernel_rfl
  have c3 : Try.prog.cellsOf 37 = 3 := by kernel_rfl
  have c9 : Try.prog.cellsOf 9 = 1 := by kernel_rfl
  obtain ⟨hl, hf⟩ := tc_struct Try.underlying39 h
  rw [c11] at hl
  obtain ⟨x0, x1, x2, x3, x4, x5, x6, x7, x8, x9, x10, rfl⟩ := cs11 hl
  simp [c1, c3, c9] at hf
  obtain ⟨g0, g1, g2, g3, g4, g5, g6, g7, g8⟩ := hf
  obtain ⟨n0, e0, -⟩ := tc_i64 Try.underlying3 g0
  obtain ⟨n1, e1, -⟩ := tc_i64 Try.underlying3 g1
  obtain ⟨n2, e2, -⟩ := tc_i64 Try.underlying3 g2
  obtain ⟨n3, e3, -⟩ := tc_i64 Try.underlying3 g3
  obtain ⟨n4, e4, -⟩ := tc_i64 Try.underlying3 g4
  obtain ⟨n5, e5, -⟩ := tc_i64 Try.underlying3 g5
  obtain ⟨n6, e6, -⟩ := tc_i64 Try.underlying3 g6
  obtain ⟨s, e10, -⟩ := tc_str Try.underlying9 g8
  obtain ⟨v, hv⟩ := tc_bits g7
  simp [Vl.cs] at e0 e1 e2 e3 e4 e5 e6 e10 hv
  exact ⟨⟨n0, n1, n2, n3, n4, n5, n6, v.w, lo v.n, hi v.n, s⟩, by rw [e0, e1, e2, e3, e4, e5, e6, e10, hv.1, hv.2.1, hv.2.2]; rfl⟩
theorem tv_nodes {d : Nat} {a : AV} (h : TV Try.prog (d + 4) 22 a) : ∃ l : List Nd, a = NL l := by
  obtain ⟨n, ds, rfl, h2, h3, h4⟩ := tv_slice Try.underlying22 h
  have c11 : Try.prog.cellsOf 39 = 11 := by kernel_rfl
  rw [c11] at h2 h4
  obtain ⟨ss, e1, e2, -⟩ := chunks Nd.cs (fun _ => True) (fun _ => rfl) h2 fun i hi => by
    obtain ⟨n, hn⟩ := tc_node (h4 i hi)
    exact ⟨n, trivial, hn⟩
  exact ⟨ss, by rw [NL, e2, c11, e1]; rfl⟩
end Go.Proofs.Ytiobohfiaapgeaa
end
section
namespace Go.Proofs.Ytiobohfiaapgeaa
set_option maxRecDepth 100000
theorem RewriteMeans_law {a0 a1 a2 : AV} (y0 : TV Try.prog 8 Zm a0) (y1 : TV Try.prog 8 Zd a1) (y2 : TV Try.prog 8 Z1 a2) : ∃ H', R Zbv [a0, a1, a2] H0 = some (.bool true, H') := by
  obtain ⟨l, rfl⟩ := tv_nodes (d := 4) y0
  obtain ⟨n1, rfl, -⟩ := tv_int (d := 7) y1
  obtain ⟨env, hs⟩ := tv_named (d := 4) y2
  exact ⟨_, means_run hs⟩
end Go.Proofs.Ytiobohfiaapgeaa
end
