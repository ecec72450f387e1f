/- Texts SM SN SO SP BVN SQ SR SRB SS ST SU SV SX TDV SW SY EQ SZ RWM RFA RFB RFC RFV RFX TVB RFXV of this claim, one behind the other. -/
import Derived.Test.YtiobohfiaapgeaaK6
section
namespace Go.Proofs.Ytiobohfiaapgeaa
set_option maxRecDepth 100000
set_option maxHeartbeats 4000000
theorem Nd.parts' (n : Nd) : n.cs = [.int .i64 n.op, .int .i64 n.sort, .int .i64 n.a, .int .i64 n.b, .int .i64 n.c, .int .i64 n.p, .int .i64 n.q, .int .i64 n.vw, u n.vl, u n.vh, .str n.name] := rfl
theorem consF_snoc (ns : List Nd) (k : Int) : ∀ l : List Int, consF ns (l ++ [k]) = (consF ns l).bind fun vs => (conF ns k).map fun v => vs ++ [v]
  | [] => by
    simp only [List.nil_append, consF]
    cases conF ns k <;> rfl
  | x :: l => by
    simp only [List.cons_append, consF]
    cases conF ns x with
    | none => rfl
    | some v =>
      simp only
      rw [consF_snoc ns k l]
      cases consF ns l with
      | none => rfl
      | some vs =>
        cases conF ns k <;> rfl
theorem consF_none (ns : List Nd) {k : Int} (h : conF ns k = none) : ∀ l m : List Int, consF ns (l ++ k :: m) = none
  | [], m => by simp [consF, h]
  | x :: l, m => by
    simp only [List.cons_append, consF]
    cases conF ns x with
    | none => rfl
    | some v => simp only; rw [consF_none ns h l m]; rfl
theorem consF_len {ns : List Nd} : ∀ {l : List Int} {vs : List Vl}, consF ns l = some vs → vs.length = l.length
  | [], vs, h => by cases h; rfl
  | x :: l, vs, h => by
    simp only [consF] at h
    cases hx : conF ns x with
    | none => rw [hx] at h; cases h
    | some v =>
      rw [hx] at h
      simp only at h
      cases hl : consF ns l with
      | none => rw [hl] at h; cases h
      | some ws =>
        rw [hl] at h
        cases h
        simp [consF_len hl]
theorem conF_cs {ns : List Nd} {k : Int} {v : Vl} (h : conF ns k = some v) : (ndF ns k).op = 1 ∧ v = (ndF ns k).v := by
  unfold conF at h
  split at h
  · rename_i ho; cases h; exact ⟨ho, rfl⟩
  · cases h
theorem conF_no {ns : List Nd} {k : Int} (h : conF ns k = none) : ¬ (ndF ns k).op = 1 := by
  unfold conF at h
  split at h
  · cases h
  · assumption
theorem flatV_snoc (l : List Vl) (v : Vl) : flatV (l ++ [v]) = flatV l ++ v.cs := by simp [flatV]
section
variable {H : AHeap} {w dn g : Nat} {most : Int} {ns : List Nd} {F : List Nat} {e : Int}
theorem Wv.up (h : WG H w dn g most ns F 0) {H1 : AHeap} (k : Keeps H H1) {x : List Nd × Int × Int} {r1 : Option (AV × AHeap)} (hw : Wv H1 w dn g most F x r1) : ∃ id H2, r1 = some (.int .i64 id, H2) ∧ Wv H w dn g most F x (some (back [] H (.int .i64 id) H2)) := by
  obtain ⟨H2, F2, ns2, id, e2, rfl, g2, k2, n2, ok, bad⟩ := hw
  have k3 : Fr (w :: F) H H2 := (k.fr _).trans k2 fun p hp => .inl hp
  obtain ⟨D, hD, g4, k4⟩ := h.back g2 k3 id
  refine ⟨id, H2, rfl, D, F2, ns2, id, e2, by rw [hD], g4, k4, fun p hp => ?_, ok, bad⟩
  have := k.size
  rcases n2 p hp with h | h
  · exact .inl h
  · exact .inr (by omega)
theorem folded_loop (h : WG H w dn g most ns F 0) {o m : Nat} {f : Bool} {ks all : List Int} (hm : m ≤ 3) (ho : o < H.size) (hob : H.obj o = .cells (all.map (.int .i64))) (hks : ks = all.take m) (hl : all.length = 3) {ev : Env} {r : Rn}
    (hL : loopL Try.prog KT R Zbn ev H = r) (e0 : ev 0 = some (.ptr w 0)) (e5 : ev 5 = some .nils) (e22 : ev 22 = some (.row o 0 1 m f)) (e23 : ev 23 = some (.int .i64 m)) (e24 : ev 24 = some (.int .i64 0)) :
    ∃ x ev' H', r = some (x, ev', H') ∧ (Keeps H H' ∧ ((x = .ret ∧ ev' 4 = some (.int .i64 0) ∧ consF ns ks = none) ∨ (x = .exit 0 ∧ ∃ v vs, consF ns ks = some vs ∧ ev' 5 = some v ∧ RV H' v vs))) ∧ ∀ t, t ∉ defs Zbn → ev' t = ev t := by
  have hkl : ks.length = m := by rw [hks]; simp; omega
  refine loop_count Zbn.eq_1 hL m (fun i e1 H1 => e1 24 = some (.int .i64 i) ∧ Keeps H H1 ∧ ∃ v vs, consF ns (ks.take i) = some vs ∧ vs.length = i ∧ e1 5 = some v ∧ Reads H1 v 3 vs.length (flatV vs) ∧ grows v ∧ ∀ p, p ∈ objs v → H.size ≤ p) _ 0 (Nat.zero_le _) ⟨e24, Keeps.refl _, .nils, [], by simp [consF], rfl, e5, by simp [flatV], by simp, by simp⟩ ?_ ?_
  · rintro i e1 H1 hf - hi ⟨f24, k1, v, vs, hc, hvl, f5, rv, gv, nv⟩
    have w1 : IntKind.i64.wrap ((i : Int) + 1) = (i : Int) + 1 := i64w (by omega) (by omega)
    have c1 : (i : Int) < m := by omega
    have hob1 : H1.obj o = .cells (all.map (.int .i64)) := by rw [k1.obj o ho]; exact hob
    have hia : i < all.length := by omega
    have hik : i < ks.length := by omega
    have hget : (all.map (AV.int .i64))[i]? = some (.int .i64 (ks.getD i 0)) := by
      rw [List.getElem?_map, List.getElem?_eq_getElem hia]
      rw [hks, List.getD_eq_getElem?_getD, List.getElem?_take_of_lt hi, List.getElem?_eq_getElem hia]
      rfl
    have ta : ks.take (i + 1) = ks.take i ++ [ks.getD i 0] := by rw [List.take_add_one]; simp [List.getD_eq_getElem?_getD, hik]
    have td : ks = ks.take i ++ ks.getD i 0 :: ks.drop (i + 1) := by
      have : ks.getD i 0 = ks[i] := by simp [List.getD_eq_getElem?_getD, hik]
      rw [this, ← List.drop_eq_getElem_cons hik, List.take_append_drop]
    have hval := value_run (h.keeps k1) (ks.getD i 0)
    obtain ⟨k, hk⟩ : ∃ k, k = ks.getD i 0 := ⟨_, rfl⟩
    rw [← hk] at hget ta td hval
    obtain ⟨L, hL'⟩ : ∃ L, L = all.map (AV.int .i64) := ⟨_, rfl⟩
    rw [← hL'] at hob1 hget
    rw [ta, consF_snoc, hc]
    cases hco : conF ns k with
    | none =>
      have hno := conF_no hco
      have hcn : consF ns ks = none := by rw [td]; exact consF_none ns hco _ _
      simp (maxDischargeDepth := 40) [hf, f24, e0, e22, e23, c1, hob1, hget, hval, hno, hcn, k1]
      exact k1.trans ((Keeps.new H1 _).set (Nat.le_refl _) _)
    | some u' =>
      obtain ⟨hop, hu⟩ := conF_cs hco
      simp (maxDischargeDepth := 40) [hf, f24, f5, e0, e22, e23, c1, hob1, hget, hval, hop]
      generalize hA : appU _ _ _ _ = q
      obtain ⟨nu1, nu2, nu3⟩ := nd_v (ndF ns k)
      have hcs : u'.cs = [.int .i64 (ndF ns k).vw, u (ndF ns k).vl, u (ndF ns k).vh] := by rw [hu]; unfold Vl.cs; rw [nu1, nu2, nu3]
      have kn := (((Keeps.new H1 (.cells [.int .i64 0, u 0#64, u 0#64])).set (Nat.le_refl _) (.cells [.int .i64 (ndF ns k).vw, u (ndF ns k).vl, u (ndF ns k).vh])).new' (.cells [.int .i64 (ndF ns k).vw, u (ndF ns k).vl, u (ndF ns k).vh]))
      obtain ⟨H2, rfl, F2, s2, o2, rd2⟩ := app_of hA (rv.keep kn) gv (Reads.row' (all := [.int .i64 (ndF ns k).vw, u (ndF ns k).vl, u (ndF ns k).vh]) (by simp) (by simp) (by simp)) (by omega) rfl (by omega) (by omega) (by omega) (by simp)
      simp [f24, w1]
      refine ⟨F2.keeps (k1.trans kn) nv, hvl, ?_, ?_⟩
      · rw [flatV_snoc, hcs]
        simpa using rd2
      · have := k1.size
        omega
  · rintro e1 H1 hf ⟨f24, k1, v, vs, hc, hvl, f5, rv, gv, nv⟩
    rw [List.take_of_length_le (by omega)] at hc
    simp [hf, f24, e23, f5]
    exact ⟨k1, v, vs, hc, rfl, rv⟩
theorem folded_run (h : WG H w dn g most ns F 0) {n : Nd} (har : 0 ≤ arity n.op) {r : Option (AV × AHeap)} (hr : R Zw [.ptr w 0, .agg n.cs] H = r) :
    match foldF ns n with
    | none => r = some (.int .i64 0, H)
    | some v => Wv H w dn g most F (makT most ns (constN v)) r := by
  rw [Ze1] at hr
  have h3 := arity_le n.op
  obtain ⟨m, hm⟩ : ∃ m : Nat, arity n.op = m := ⟨(arity n.op).toNat, by omega⟩
  have har' := fun H => arity_run (op := n.op) (H := H)
  rw [hm] at har'
  have hsl : ∀ (H : AHeap) o, aslice Try.prog H Z7 (.row o 0 1 3 true) none (some (.int .i64 (m : Int))) none = some (.row o 0 1 m (true && decide ((m : Int) = (3 : Nat)))) := fun H o => aslice_to (by simp) (by omega)
  have hlo := h.lo
  have hself := h.self
  simp only [Nd.parts'] at hr
  simp (maxDischargeDepth := 40) [Zde, har', hsl] at hr
  generalize hL : loopL _ _ _ _ _ _ = q at hr
  have kn : Keeps H ((H.new (.cells n.cs)).new (.cells [.int .i64 n.a, .int .i64 n.b, .int .i64 n.c])) := ((Keeps.refl H).new' _).new' _
  obtain ⟨x, ev, H1, rfl, ⟨k1, hx⟩, fr⟩ := folded_loop (h.keeps kn) (all := [n.a, n.b, n.c]) (o := H.size + 1) (m := m) (f := decide ((m : Int) = 3)) (by omega) (by simp) (by simp [Nd.parts']) rfl rfl hL (by simp) (by simp) (by simp) (by simp) (by simp)
  have k2 := kn.trans k1
  have hfo : foldF ns n = match consF ns ([n.a, n.b, n.c].take m) with
      | none => none
      | some l => if (applyS n.op n.p n.q l).2 = 0 then some (applyS n.op n.p n.q l).1 else none := by
    unfold foldF
    rw [hm]
    rfl
  rw [hfo]
  rcases hx with ⟨rfl, f4, hc⟩ | ⟨rfl, v, vs, hc, f5, rv⟩
  · rw [hc]
    simp [f4] at hr
    rw [back_k (by simp) k2] at hr
    exact hr.symm
  · rw [hc]
    simp only
    have hlen : vs.length ≤ 1000 := by
      have h1 := consF_len hc
      have h2 : ([n.a, n.b, n.c].take m).length ≤ 3 := by simp; omega
      omega
    have hap := apply_run (op := n.op) (p := n.p) (q := n.q) rv hlen
    have hob : H1.obj H.size = .cells n.cs := by rw [k1.obj _ (by simp)]; simp
    have hl1 : H.size < H1.size := by have := k1.size; simp at this; omega
    rw [Nd.parts'] at hob
    have kk := k2.trans ((Keeps.new H1 (.cells [.int .i64 0, u 0#64, u 0#64])).set (Nat.le_refl _) (.cells [.int .i64 (applyS n.op n.p n.q vs).1.w, u (lo (applyS n.op n.p n.q vs).1.n), u (hi (applyS n.op n.p n.q vs).1.n)]))
    by_cases c : (applyS n.op n.p n.q vs).2 = 0
    · rw [if_pos c]
      rw [c] at hap
      simp (maxDischargeDepth := 40) [fr, f5, hob, hap] at hr
      generalize hA : R Zg _ _ = q at hr
      have hW := constant_run (h.keeps kk) hA fun H' r' k' hr' => make_run ((h.keeps kk).keeps k') hr'
      obtain ⟨id, H2, rfl, hW2⟩ := Wv.up h kk hW
      simp at hr
      rw [← hr]
      exact hW2
    · rw [if_neg c]
      simp (maxDischargeDepth := 40) [fr, f5, hob, hap, c] at hr
      rw [back_k (by simp) kk] at hr
      exact hr.symm
end
end Go.Proofs.Ytiobohfiaapgeaa
end
section
namespace Go.Proofs.Ytiobohfiaapgeaa
set_option maxRecDepth 100000
set_option maxHeartbeats 4000000
def exF (most : Int) (f : Nat) (ns : List Nd) (n : Nd) : Ch → List Nd × Int × Int
  | .at k => (ns, k, 0)
  | .con v => makT most ns (constN v)
  | .mk => makT most ns n
  | .again m => normF most f ns m
  | .shl x v => if (makT most ns (constN v)).2.2 = 0 then normF most f (makT most ns (constN v)).1 (nodeO 26 x (makT most ns (constN v)).2.1 0 0 0) else ((makT most ns (constN v)).1, 0, (makT most ns (constN v)).2.2)
theorem normF_ex {most : Int} {f : Nat} {ns : List Nd} {n : Nd} : normF most (f + 1) ns n = exF most f ns n (pathF ns n) := by
  unfold normF exF
  cases pathF ns n <;> rfl
def NormC (f : Nat) : Prop := ∀ {H : AHeap} {w dn g : Nat} {most : Int} {ns : List Nd} {F : List Nat} {n : Nd} {r : Option (AV × AHeap)}, WG H w dn g most ns F 0 → Gok ns → formedF ns.length n = true → (sortedF ns n).2 = 0 → (normF most f ns n).2.2 ≠ -1 →
  R Zj [.ptr w 0, .agg n.cs] H = r → Wv H w dn g most F (normF most f ns n) r
theorem ok_w {v : Vl} (h : v.ok = true) : 0 ≤ v.w ∧ v.w ≤ 128 := by
  unfold Vl.ok rightF at h
  by_cases c : v.w = 0
  · omega
  · rw [if_neg c] at h
    simp at h
    omega
section
variable {H : AHeap} {w dn g : Nat} {most : Int} {ns : List Nd} {F : List Nat} {e : Int}
theorem Wv.stay (h : WG H w dn g most ns F 0) (k : Int) : Wv H w dn g most F (ns, k, 0) (some (.int .i64 k, H)) :=
  ⟨H, F, ns, k, 0, rfl, h, Fr.refl _ _, fun _ hp => .inl hp, fun _ => ⟨rfl, rfl, rfl⟩, fun h => absurd rfl h⟩
theorem kid_sort (g : Gok ns) {k : Int} (h1 : 1 ≤ k) (h2 : k ≤ ns.length) : 0 ≤ (ndF ns k).sort ∧ (ndF ns k).sort ≤ 128 := by
  obtain ⟨look, hA⟩ := look_any g
  have K := kid_ok g hA h1 h2
  rw [← K.w]
  exact ok_w K.ok
theorem ext_bounds (g : Gok ns) {n : Nd} (hf : formedF ns.length n = true) (hs : (sortedF ns n).2 = 0) (h39 : n.op = 39) : 0 ≤ n.q ∧ n.q ≤ n.p ∧ n.p < 128 := by
  obtain ⟨look, hA⟩ := look_any g
  have F := node_fit g hA hf hs (by omega) (by omega)
  rw [h39] at F
  obtain ⟨l, hl⟩ : ∃ l, l = kidsV (valsV look ns) n := ⟨_, rfl⟩
  obtain ⟨s, hs⟩ : ∃ s, s = (sortedF ns n).1.sort := ⟨_, rfl⟩
  obtain ⟨p, hp⟩ : ∃ p, p = n.p := ⟨_, rfl⟩
  obtain ⟨q, hq⟩ : ∃ q, q = n.q := ⟨_, rfl⟩
  rw [← hl, ← hs, ← hp, ← hq] at F
  rw [← hp, ← hq]
  cases F with
  | extract N i j x g1 g2 _ g4 g5 g6 g7 => omega
  | _ => omega
theorem again_up {f : Nat} (hC : NormC f) (h : WG H w dn g most ns F 0) (gk : Gok ns) {n m : Nd} (hne : (exF most f ns n (.again m)).2.2 ≠ -1) {look : ByteArray → Option Vl} (P : PV look ns n (.again m)) {H1 : AHeap} (k : Keeps H H1) {r : Option (AV × AHeap)} (hr : R Zj [.ptr w 0, .agg m.cs] H1 = r) :
    ∃ id H2, r = some (.int .i64 id, H2) ∧ Wv H w dn g most F (exF most f ns n (.again m)) (some (back [] H (.int .i64 id) H2)) := by
  obtain ⟨-, -, m3, m4, -⟩ := P
  exact Wv.up h k (hC (h.keeps k) gk m3 (by rw [m4]) hne hr)
theorem mk_up {f : Nat} (h : WG H w dn g most ns F 0) {n : Nd} {H1 : AHeap} (k : Keeps H H1) {r : Option (AV × AHeap)} (hr : R Zf [.ptr w 0, .agg n.cs] H1 = r) :
    ∃ id H2, r = some (.int .i64 id, H2) ∧ Wv H w dn g most F (exF most f ns n .mk) (some (back [] H (.int .i64 id) H2)) :=
  Wv.up h k (make_run (h.keeps k) hr)
theorem con_up {f : Nat} (h : WG H w dn g most ns F 0) {n : Nd} {v : Vl} {H1 : AHeap} (k : Keeps H H1) {r : Option (AV × AHeap)} (hr : R Zg [.ptr w 0, .agg [.int .i64 v.w, u (lo v.n), u (hi v.n)]] H1 = r) :
    ∃ id H2, r = some (.int .i64 id, H2) ∧ Wv H w dn g most F (exF most f ns n (.con v)) (some (back [] H (.int .i64 id) H2)) :=
  Wv.up h k (constant_run (h.keeps k) hr fun _ _ k' hr' => make_run ((h.keeps k).keeps k') hr')
theorem at_up {f : Nat} (h : WG H w dn g most ns F 0) {n : Nd} {k : Int} {H1 : AHeap} (kk : Keeps H H1) : Wv H w dn g most F (exF most f ns n (.at k)) (some (back [] H (.int .i64 k) H1)) := by
  rw [back_k (by simp) kk]
  exact Wv.stay h k
theorem slice_run {f : Nat} (hC : NormC f) (h : WG H w dn g most ns F 0) (gk : Gok ns) {n : Nd} (hf : formedF ns.length n = true) (hs : (sortedF ns n).2 = 0) (h39 : n.op = 39) (hne : (exF most f ns n (sliceF ns n (ndF ns n.a))).2.2 ≠ -1) {r : Option (AV × AHeap)}
    (hr : R Z5 [.ptr w 0, .agg n.cs, .agg (ndF ns n.a).cs] H = r) : Wv H w dn g most F (exF most f ns n (sliceF ns n (ndF ns n.a))) r := by
  rw [Ze5] at hr
  have har : arity n.op = 1 := by rw [h39]; decide
  obtain ⟨f1, f2, f3, f4⟩ := formed1 hf har
  have B := ext_bounds gk hf hs h39
  obtain ⟨look, hA⟩ := look_any gk
  have PVs := slice_val gk hA hf hs h39
  have K := kid_ok gk hA f1 f2
  have hnode := fun H' (k : Keeps H H') id => (h.keeps k).node id
  have k0 : Keeps H ((H.new (.cells n.cs)).new (.cells (ndF ns n.a).cs)) := ((Keeps.refl H).new' _).new' _
  have kf := K.form
  have hself := h.self
  have hlo := h.lo
  have kB : (ndF ns n.a).op = 39 → 0 ≤ (ndF ns n.a).q ∧ (ndF ns n.a).q ≤ (ndF ns n.a).p ∧ (ndF ns n.a).p < 128 := fun ho => by
    obtain ⟨i, hi, hni⟩ := nd_at f1 f2
    have := gk.srt _ (List.mem_of_getElem? hni)
    exact ext_bounds gk kf (by rw [this]) ho
  have kC : (ndF ns n.a).op = 38 → 0 ≤ (ndF ns (ndF ns n.a).b).sort ∧ (ndF ns (ndF ns n.a).b).sort ≤ 128 := fun ho => by
    obtain ⟨-, -, g3, g4, -⟩ := formed2 kf (by rw [ho]; decide)
    exact kid_sort gk g3 g4
  obtain ⟨k, hk⟩ : ∃ k, k = ndF ns n.a := ⟨_, rfl⟩
  rw [← hk] at hr hne PVs kf kB kC k0 ⊢
  have hn0 := fun id => hnode _ k0 id
  have again : ∀ m : Nd, sliceF ns n k = .again m → ∀ (H1 : AHeap) (_ : Keeps H H1) (r : Option (AV × AHeap)), R Zj [.ptr w 0, .agg m.cs] H1 = r → ∃ id H2, r = some (.int .i64 id, H2) ∧ Wv H w dn g most F (exF most f ns n (.again m)) (some (back [] H (.int .i64 id) H2)) := fun m hm H1 k r hr => by
    rw [hm] at PVs hne
    exact again_up hC h gk hne PVs k hr
  have mk := fun (H1 : AHeap) (k : Keeps H H1) (r : Option (AV × AHeap)) (hr : R Zf [.ptr w 0, .agg n.cs] H1 = r) => mk_up (f := f) h k hr
  unfold sliceF at again ⊢
  clear hne PVs hk K hC
  simp only [Nd.parts'] at hr mk hn0
  by_cases c1 : k.op = 39
  · rw [if_pos c1] at again ⊢
    have kb := kB c1
    have w1 : IntKind.i64.wrap (n.p + k.q) = n.p + k.q := i64w (by omega) (by omega)
    have w2 : IntKind.i64.wrap (n.q + k.q) = n.q + k.q := i64w (by omega) (by omega)
    have ag := again _ rfl
    simp only [Nd.parts', nodeO] at ag
    simp (maxDischargeDepth := 40) [Z6, c1, w1, w2] at hr
    generalize hA : R Zj _ _ = q at hr
    obtain ⟨id, H2, rfl, hW⟩ := ag _ (by ((repeat (first | exact Keeps.refl _ | assumption | refine Keeps.new' ?_ _ | refine Keeps.set ?_ ?_ _)) <;> (first | assumption | (simp; done) | (simp; omega)))) _ hA
    simp at hr
    rw [← hr]
    exact hW
  rw [if_neg c1] at again ⊢
  by_cases c2 : k.op = 38
  · rw [if_pos c2] at again ⊢
    have kb := kC c2
    have hnb := hn0 k.b
    rw [c2] at hnb
    obtain ⟨l, hl⟩ : ∃ l, l = ndF ns k.b := ⟨_, rfl⟩
    rw [← hl] at again hnb kb ⊢
    have w1 : IntKind.i64.wrap (n.p - l.sort) = n.p - l.sort := i64w (by omega) (by omega)
    have w2 : IntKind.i64.wrap (n.q - l.sort) = n.q - l.sort := i64w (by omega) (by omega)
    by_cases c3 : l.sort ≤ n.q
    · rw [if_pos c3] at again ⊢
      have ag := again _ rfl
      simp only [Nd.parts', nodeO] at ag
      simp (maxDischargeDepth := 40) [Z6, hself, hlo, c2, hnb, w1, w2, c3] at hr
      generalize hA : R Zj _ _ = q at hr
      obtain ⟨id, H2, rfl, hW⟩ := ag _ (by ((repeat (first | exact Keeps.refl _ | assumption | refine Keeps.new' ?_ _ | refine Keeps.set ?_ ?_ _)) <;> (first | assumption | (simp; done) | (simp; omega)))) _ hA
      simp at hr
      rw [← hr]
      exact hW
    rw [if_neg c3] at again ⊢
    by_cases c4 : n.p < l.sort
    · rw [if_pos c4] at again ⊢
      have ag := again _ rfl
      simp only [Nd.parts', nodeO] at ag
      simp (maxDischargeDepth := 40) [Z6, hself, hlo, c2, hnb, c3, c4] at hr
      generalize hA : R Zj _ _ = q at hr
      obtain ⟨id, H2, rfl, hW⟩ := ag _ (by ((repeat (first | exact Keeps.refl _ | assumption | refine Keeps.new' ?_ _ | refine Keeps.set ?_ ?_ _)) <;> (first | assumption | (simp; done) | (simp; omega)))) _ hA
      simp at hr
      rw [← hr]
      exact hW
    · rw [if_neg c4] at again ⊢
      simp (maxDischargeDepth := 40) [Z6, hself, hlo, c2, hnb, c3, c4] at hr
      generalize hA : R Zf _ _ = q at hr
      obtain ⟨id, H2, rfl, hW⟩ := mk _ (by ((repeat (first | exact Keeps.refl _ | assumption | refine Keeps.new' ?_ _ | refine Keeps.set ?_ ?_ _)) <;> (first | assumption | (simp; done) | (simp; omega)))) _ hA
      simp at hr
      rw [← hr]
      exact hW
  rw [if_neg c2] at again ⊢
  by_cases c5 : k.op = 40 ∨ k.op = 41
  · rw [if_pos c5] at again ⊢
    have hnb := hn0 k.a
    obtain ⟨l, hl⟩ : ∃ l, l = ndF ns k.a := ⟨_, rfl⟩
    rw [← hl] at again hnb ⊢
    by_cases c4 : n.p < l.sort
    · rw [if_pos c4] at again ⊢
      have ag := again _ rfl
      simp only [Nd.parts', nodeO] at ag
      rcases c5 with c5 | c5 <;>
      · rw [c5] at hnb
        simp (maxDischargeDepth := 40) [Z6, hself, hlo, hnb, c5, c4] at hr
        generalize hA : R Zj _ _ = q at hr
        obtain ⟨id, H2, rfl, hW⟩ := ag _ (by ((repeat (first | exact Keeps.refl _ | assumption | refine Keeps.new' ?_ _ | refine Keeps.set ?_ ?_ _)) <;> (first | assumption | (simp; done) | (simp; omega)))) _ hA
        simp at hr
        rw [← hr]
        exact hW
    · rw [if_neg c4] at again ⊢
      rcases c5 with c5 | c5 <;>
      · rw [c5] at hnb
        simp (maxDischargeDepth := 40) [Z6, hself, hlo, hnb, c5, c4] at hr
        generalize hA : R Zf _ _ = q at hr
        obtain ⟨id, H2, rfl, hW⟩ := mk _ (by ((repeat (first | exact Keeps.refl _ | assumption | refine Keeps.new' ?_ _ | refine Keeps.set ?_ ?_ _)) <;> (first | assumption | (simp; done) | (simp; omega)))) _ hA
        simp at hr
        rw [← hr]
        exact hW
  · rw [if_neg c5] at again ⊢
    have c6 : ¬ k.op = 40 := fun h => c5 (.inl h)
    have c7 : ¬ k.op = 41 := fun h => c5 (.inr h)
    simp (maxDischargeDepth := 40) [Z6, c1, c2, c6, c7] at hr
    generalize hA : R Zf _ _ = q at hr
    obtain ⟨id, H2, rfl, hW⟩ := mk _ (by ((repeat (first | exact Keeps.refl _ | assumption | refine Keeps.new' ?_ _ | refine Keeps.set ?_ ?_ _)) <;> (first | assumption | (simp; done) | (simp; omega)))) _ hA
    simp at hr
    rw [← hr]
    exact hW
end
end Go.Proofs.Ytiobohfiaapgeaa
end
section
namespace Go.Proofs.Ytiobohfiaapgeaa
set_option maxRecDepth 100000
set_option maxHeartbeats 4000000
def tagsF (op : Int) : Int :=
  if op = 3 then 128 else
  if op = 4 then 1 else
  if op = 5 then 1 else
  if op = 6 then 2 else
  if op = 7 then 4 else
  if op = 8 then 4 else
  if op = 10 then 128 else
  if op = 11 then 128 else
  if op = 12 then 9 else
  if op = 13 then 17 else
  if op = 14 then 18 else
  if op = 18 then 16 else
  if op = 19 then 34 else
  if op = 20 then 264 else
  if op = 21 then 256 else
  if op = 26 then 96 else
  if op = 27 then 96 else
  if op = 28 then 96 else
  if op = 29 then 2 else
  if op = 30 then 4 else
  if op = 31 then 2 else
  if op = 32 then 4 else
  if op = 33 then 2 else
  if op = 34 then 4 else
  if op = 35 then 2 else
  if op = 36 then 4 else
  0
theorem tags_run {op : Int} {H : AHeap} : R Zd5 [.int .i64 op] H = some (.int .i64 (tagsF op), H) := by
  rw [Zhi]
  by_cases c3 : op = 3
  · subst c3; simp (maxDischargeDepth := 40) [Zv, tagsF]
  by_cases c4 : op = 4
  · subst c4; simp (maxDischargeDepth := 40) [Zv, tagsF]
  by_cases c5 : op = 5
  · subst c5; simp (maxDischargeDepth := 40) [Zv, tagsF]
  by_cases c6 : op = 6
  · subst c6; simp (maxDischargeDepth := 40) [Zv, tagsF]
  by_cases c7 : op = 7
  · subst c7; simp (maxDischargeDepth := 40) [Zv, tagsF]
  by_cases c8 : op = 8
  · subst c8; simp (maxDischargeDepth := 40) [Zv, tagsF]
  by_cases c10 : op = 10
  · subst c10; simp (maxDischargeDepth := 40) [Zv, tagsF]
  by_cases c11 : op = 11
  · subst c11; simp (maxDischargeDepth := 40) [Zv, tagsF]
  by_cases c12 : op = 12
  · subst c12; simp (maxDischargeDepth := 40) [Zv, tagsF]
  by_cases c13 : op = 13
  · subst c13; simp (maxDischargeDepth := 40) [Zv, tagsF]
  by_cases c14 : op = 14
  · subst c14; simp (maxDischargeDepth := 40) [Zv, tagsF]
  by_cases c18 : op = 18
  · subst c18; simp (maxDischargeDepth := 40) [Zv, tagsF]
  by_cases c19 : op = 19
  · subst c19; simp (maxDischargeDepth := 40) [Zv, tagsF]
  by_cases c20 : op = 20
  · subst c20; simp (maxDischargeDepth := 40) [Zv, tagsF]
  by_cases c21 : op = 21
  · subst c21; simp (maxDischargeDepth := 40) [Zv, tagsF]
  by_cases c26 : op = 26
  · subst c26; simp (maxDischargeDepth := 40) [Zv, tagsF]
  by_cases c27 : op = 27
  · subst c27; simp (maxDischargeDepth := 40) [Zv, tagsF]
  by_cases c28 : op = 28
  · subst c28; simp (maxDischargeDepth := 40) [Zv, tagsF]
  by_cases c29 : op = 29
  · subst c29; simp (maxDischargeDepth := 40) [Zv, tagsF]
  by_cases c30 : op = 30
  · subst c30; simp (maxDischargeDepth := 40) [Zv, tagsF]
  by_cases c31 : op = 31
  · subst c31; simp (maxDischargeDepth := 40) [Zv, tagsF]
  by_cases c32 : op = 32
  · subst c32; simp (maxDischargeDepth := 40) [Zv, tagsF]
  by_cases c33 : op = 33
  · subst c33; simp (maxDischargeDepth := 40) [Zv, tagsF]
  by_cases c34 : op = 34
  · subst c34; simp (maxDischargeDepth := 40) [Zv, tagsF]
  by_cases c35 : op = 35
  · subst c35; simp (maxDischargeDepth := 40) [Zv, tagsF]
  by_cases c36 : op = 36
  · subst c36; simp (maxDischargeDepth := 40) [Zv, tagsF]
  simp (maxDischargeDepth := 40) [Zv, tagsF, c3, c4, c5, c6, c7, c8, c10, c11, c12, c13, c14, c18, c19, c20, c21, c26, c27, c28, c29, c30, c31, c32, c33, c34, c35, c36]
def tbit (op k : Int) : Int := IntKind.i64.wrap (BitVec.ofInt IntKind.i64.bits (tagsF op) &&& BitVec.ofInt IntKind.i64.bits k).toNat
@[simp high] theorem tag_and {P : Program} {K : TypeId → Option (List Sc)} {t : TypeId} {op k : Int} : abin P K .and t (.int .i64 (tagsF op)) (.int .i64 k) = some (.int .i64 (tbit op k)) := by
  unfold tbit
  rw [bin_and]
theorem tbit_fin {k : Int} {p : Int → Prop} [DecidablePred p] (h : ∀ i : Fin 45, (tbit (i : Nat) k = 0 ↔ ¬ p ((i : Nat) : Int))) {op : Int} (h1 : 0 ≤ op) (h2 : op ≤ 44) : tbit op k = 0 ↔ ¬ p op := by
  have := h ⟨op.toNat, by omega⟩
  simp only [Int.toNat_of_nonneg h1] at this
  exact this
theorem tb128 {op : Int} (h1 : 0 ≤ op) (h2 : op ≤ 44) : tbit op 128 = 0 ↔ ¬ (op = 3 ∨ op = 10 ∨ op = 11) := tbit_fin (p := fun op => op = 3 ∨ op = 10 ∨ op = 11) (by decide) h1 h2
theorem arity_bound {op : Int} (h : 0 ≤ arity op) : 1 ≤ op ∧ op ≤ 44 := by
  unfold arity at h
  split at h
  · omega
  · omega
section
variable {H : AHeap} {w dn g : Nat} {most : Int} {ns : List Nd} {F : List Nat} {e : Int}
theorem makT_pos {most : Int} {ns : List Nd} {n : Nd} (h : (makT most ns n).2.2 = 0) : 0 < (makT most ns n).2.1 := by
  unfold makT at h ⊢
  split at h
  · cases h
  · split at h
    · rename_i h2; exact absurd h h2
    · rename_i h1 h2
      rw [if_neg h1, if_neg h2]
      split at h
      · simp only; omega
      · split at h
        · cases h
        · rename_i h3; rw [if_neg h3]; simp only; omega
theorem fold_up {f : Nat} (h : WG H w dn g most ns F 0) {n : Nd} (har : 0 ≤ arity n.op) {v : Vl} (hv : foldF ns n = some v) {H1 : AHeap} (k : Keeps H H1) {r : Option (AV × AHeap)} (hr : R Zw [.ptr w 0, .agg n.cs] H1 = r) :
    ∃ id H2 e, r = some (.int .i64 id, H2) ∧ H2.obj w = .cells [.ptr g 0, .map dn, .int .i64 e] ∧ w < H2.size ∧ (¬ 0 < id → ¬ e = 0) ∧ Wv H w dn g most F (exF most f ns n (.con v)) (some (back [] H (.int .i64 id) H2)) := by
  have hW := folded_run (h.keeps k) har hr
  rw [hv] at hW
  simp only at hW
  obtain ⟨id', H2', e1, hW2⟩ := Wv.up h k hW
  obtain ⟨H2, F2, ns2, id, e2, rfl, g2, k2, n2, ok, bad⟩ := hW
  cases e1
  refine ⟨_, _, e2, rfl, g2.self, g2.lo, fun hid he => ?_, hW2⟩
  by_cases c : (makT most ns (constN v)).2.2 = 0
  · obtain ⟨-, rfl, -⟩ := ok c
    exact hid (makT_pos c)
  · have := bad c
    omega
theorem fold_no (h : WG H w dn g most ns F 0) {n : Nd} (har : 0 ≤ arity n.op) (hv : foldF ns n = none) {H1 : AHeap} (k : Keeps H H1) : R Zw [.ptr w 0, .agg n.cs] H1 = some (.int .i64 0, H1) := by
  have hW := folded_run (h.keeps k) har rfl
  rw [hv] at hW
  exact hW
theorem rot_sort (g : Gok ns) {n : Nd} (hf : formedF ns.length n = true) (hs : (sortedF ns n).2 = 0) (har : arity n.op = 1) (ho : n.op = 42 ∨ n.op = 43) : ¬ (ndF ns n.a).sort = 0 := by
  obtain ⟨look, hA⟩ := look_any g
  obtain ⟨f1, f2, f3, f4⟩ := formed1 hf har
  have K := kid_ok g hA f1 f2
  have F := node_fit g hA hf hs (by omega) (by omega)
  rw [kidsV_1 har] at F
  have kw := K.w
  obtain ⟨v, hv⟩ : ∃ v, v = V look ns n.a := ⟨_, rfl⟩
  obtain ⟨l, hl⟩ : ∃ l, l = [V look ns n.a] := ⟨_, rfl⟩
  obtain ⟨s, hs⟩ : ∃ s, s = (sortedF ns n).1.sort := ⟨_, rfl⟩
  rw [← hl, ← hs] at F
  rw [← hv] at kw hl
  cases F with
  | rot N k x r1 r2 r3 r4 r5 r6 =>
    have : Vl.of x = v := by injection hl
    rw [← this] at kw
    rw [← kw]
    show ¬ (N : Int) = 0
    omega
  | _ => omega
theorem wone_run {f : Nat} (hC : NormC f) (h : WG H w dn g most ns F 0) (gk : Gok ns) {n : Nd} (hf : formedF ns.length n = true) (hs : (sortedF ns n).2 = 0) (_h1 : ¬ n.op = 1) (_h2 : ¬ n.op = 2) (har : arity n.op = 1) (hne : (exF most f ns n (unC ns n)).2.2 ≠ -1) {r : Option (AV × AHeap)}
    (hr : R Zbe [.ptr w 0, .agg n.cs] H = r) : Wv H w dn g most F (exF most f ns n (unC ns n)) r := by
  rw [Zfd] at hr
  have hself := h.self
  have hlo := h.lo
  have k1 : Keeps H (H.new (.cells n.cs)) := (Keeps.refl H).new' _
  cases hfo : foldF ns n with
  | some v =>
    rw [show unC ns n = .con v by unfold unC; rw [hfo]]
    have hX := fun (r' : Option (AV × AHeap)) => fold_up (f := f) h (by omega) hfo k1 (r := r')
    simp only [Nd.parts'] at hr hX
    simp (maxDischargeDepth := 40) [Zp] at hr
    generalize hA : R Zw _ _ = q at hr
    obtain ⟨id, H2, e, rfl, o2, l2, hid, hW⟩ := hX _ hA
    by_cases c : 0 < id
    · simp (maxDischargeDepth := 40) [c] at hr
      rw [← hr]; exact hW
    · have := hid c
      simp (maxDischargeDepth := 40) [c, o2, this] at hr
      rw [← hr]; exact hW
  | none =>
    have hX := fold_no h (by omega) hfo k1
    have hnode := (h.keeps k1).node n.a
    obtain ⟨f1, f2, f3, f4⟩ := formed1 hf har
    have hks := kid_sort gk f1 f2
    have ob := arity_bound (op := n.op) (by omega)
    have t8 := tb128 (op := n.op) (by omega) (by omega)
    have w1 : IntKind.i64.wrap ((ndF ns n.a).sort - 1) = (ndF ns n.a).sort - 1 := i64w (by omega) (by omega)
    have mk := fun (H1 : AHeap) (k : Keeps H H1) (r : Option (AV × AHeap)) (hr : R Zf [.ptr w 0, .agg n.cs] H1 = r) => mk_up (f := f) h k hr
    have hsl := fun (h39 : n.op = 39) (hne : (exF most f ns n (sliceF ns n (ndF ns n.a))).2.2 ≠ -1) (H1 : AHeap) (k : Keeps H H1) (r : Option (AV × AHeap)) (hr : R Z5 [.ptr w 0, .agg n.cs, .agg (ndF ns n.a).cs] H1 = r) => Wv.up h k (slice_run hC (h.keeps k) gk hf hs h39 hne hr)
    have at' := fun (j : Int) (H1 : AHeap) (k : Keeps H H1) => at_up (f := f) (n := n) (k := j) h k
    have hrot := rot_sort gk hf hs har
    unfold unC at hne ⊢
    rw [hfo] at hne ⊢
    simp only at hne ⊢
    obtain ⟨k, hk⟩ : ∃ k, k = ndF ns n.a := ⟨_, rfl⟩
    rw [← hk] at hne hks w1 hnode hsl hrot ⊢
    simp only [Nd.parts'] at hr mk hX hnode hsl
    by_cases c1 : (n.op = 3 ∨ n.op = 10 ∨ n.op = 11) ∧ k.op = n.op
    · rw [if_pos c1] at hne ⊢
      have c2 : ¬ tbit n.op 128 = 0 := fun hh => t8.1 hh c1.1
      simp (maxDischargeDepth := 40) [Zp, hself, hlo, hX, hnode, tags_run, c2, c1.2] at hr
      rw [← hr]
      exact Wv.stay h _
    rw [if_neg c1] at hne ⊢
    by_cases o3 : n.op = 3 ∨ n.op = 10 ∨ n.op = 11
    · have c2 : ¬ tbit n.op 128 = 0 := fun hh => t8.1 hh o3
      have kk : ¬ k.op = n.op := fun hh => c1 ⟨o3, hh⟩
      have n39 : ¬ n.op = 39 := by omega
      have n40 : ¬ n.op = 40 := by omega
      have n41 : ¬ n.op = 41 := by omega
      have n42 : ¬ n.op = 42 := by omega
      have n43 : ¬ n.op = 43 := by omega
      have n44 : ¬ n.op = 44 := by omega
      simp only [n39, n40, n41, n42, n43, n44, false_and, or_self, if_false]
      simp (maxDischargeDepth := 40) [Zp, hself, hlo, hX, hnode, tags_run, c2, kk, n39, n40, n41, n42, n43, n44] at hr
      generalize hA : R Zf _ _ = q at hr
      obtain ⟨id, H2, rfl, hW⟩ := mk _ (by ((repeat (first | exact Keeps.refl _ | assumption | refine Keeps.new' ?_ _ | refine Keeps.set ?_ ?_ _)) <;> (first | assumption | (simp; done) | (simp; omega)))) _ hA
      simp at hr
      rw [← hr]
      exact hW
    have c2 : tbit n.op 128 = 0 := t8.2 o3
    by_cases o39 : n.op = 39
    · have e39 := eq_true o39
      have n40 : ¬ n.op = 40 := by omega
      have n41 : ¬ n.op = 41 := by omega
      have n42 : ¬ n.op = 42 := by omega
      have n43 : ¬ n.op = 43 := by omega
      have n44 : ¬ n.op = 44 := by omega
      by_cases q0 : n.q = 0
      · have eq0 := eq_true q0
        by_cases p1 : n.p = k.sort - 1
        · have ep1 := eq_true p1
          simp only [e39, eq0, ep1, true_and, if_true]
          simp (maxDischargeDepth := 40) [Zp, hself, hlo, hX, hnode, tags_run, c2, w1, e39, eq0, ep1] at hr
          rw [← hr]
          exact Wv.stay h _
        · simp only [e39, eq0, p1, n40, n41, n42, n43, n44, false_and, or_self, if_true, if_false, and_false] at hne ⊢
          simp (maxDischargeDepth := 40) [Zp, hself, hlo, hX, hnode, tags_run, c2, w1, e39, eq0, p1, n40, n41, n42, n43, n44] at hr
          generalize hA : R Z5 _ _ = q at hr
          obtain ⟨id, H2, rfl, hW⟩ := hsl o39 hne _ (by ((repeat (first | exact Keeps.refl _ | assumption | refine Keeps.new' ?_ _ | refine Keeps.set ?_ ?_ _)) <;> (first | assumption | (simp; done) | (simp; omega)))) _ hA
          simp at hr
          rw [← hr]
          exact hW
      · simp only [e39, q0, n40, n41, n42, n43, n44, false_and, or_self, if_true, if_false, and_false] at hne ⊢
        simp (maxDischargeDepth := 40) [Zp, hself, hlo, hX, hnode, tags_run, c2, e39, q0, n40, n41, n42, n43, n44] at hr
        generalize hA : R Z5 _ _ = q at hr
        obtain ⟨id, H2, rfl, hW⟩ := hsl o39 hne _ (by ((repeat (first | exact Keeps.refl _ | assumption | refine Keeps.new' ?_ _ | refine Keeps.set ?_ ?_ _)) <;> (first | assumption | (simp; done) | (simp; omega)))) _ hA
        simp at hr
        rw [← hr]
        exact hW
    by_cases o40 : n.op = 40 ∨ n.op = 41
    · have n42 : ¬ n.op = 42 := by omega
      have n43 : ¬ n.op = 43 := by omega
      have n44 : ¬ n.op = 44 := by omega
      have e40 := eq_true o40
      by_cases p0 : n.p = 0
      · have ep0 := eq_true p0
        simp only [e40, ep0, o39, true_and, false_and, if_true, if_false]
        rcases o40 with o40 | o40
        · have e40 := eq_true o40
          simp (maxDischargeDepth := 40) [Zp, hself, hlo, hX, hnode, tags_run, c2, e40, ep0, o39] at hr
          rw [← hr]
          exact Wv.stay h _
        · have e41 := eq_true o40
          have n40 : ¬ n.op = 40 := by omega
          simp (maxDischargeDepth := 40) [Zp, hself, hlo, hX, hnode, tags_run, c2, n40, e41, ep0, o39] at hr
          rw [← hr]
          exact Wv.stay h _
      · simp only [e40, p0, o39, n42, n43, n44, or_self, and_false, false_and, if_false]
        rcases o40 with o40 | o40
        · have e40 := eq_true o40
          simp (maxDischargeDepth := 40) [Zp, hself, hlo, hX, hnode, tags_run, c2, e40, p0, o39, n42, n43, n44] at hr
          generalize hA : R Zf _ _ = q at hr
          obtain ⟨id, H2, rfl, hW⟩ := mk _ (by ((repeat (first | exact Keeps.refl _ | assumption | refine Keeps.new' ?_ _ | refine Keeps.set ?_ ?_ _)) <;> (first | assumption | (simp; done) | (simp; omega)))) _ hA
          simp at hr
          rw [← hr]
          exact hW
        · have e41 := eq_true o40
          have n40 : ¬ n.op = 40 := by omega
          simp (maxDischargeDepth := 40) [Zp, hself, hlo, hX, hnode, tags_run, c2, n40, e41, p0, o39, n42, n43, n44] at hr
          generalize hA : R Zf _ _ = q at hr
          obtain ⟨id, H2, rfl, hW⟩ := mk _ (by ((repeat (first | exact Keeps.refl _ | assumption | refine Keeps.new' ?_ _ | refine Keeps.set ?_ ?_ _)) <;> (first | assumption | (simp; done) | (simp; omega)))) _ hA
          simp at hr
          rw [← hr]
          exact hW
    have n40 : ¬ n.op = 40 := fun hh => o40 (.inl hh)
    have n41 : ¬ n.op = 41 := fun hh => o40 (.inr hh)
    by_cases o42 : n.op = 42 ∨ n.op = 43
    · have n44 : ¬ n.op = 44 := by omega
      have e42 := eq_true o42
      have ks := hrot o42
      by_cases p0 : n.p.tmod k.sort = 0
      · have ep0 := eq_true p0
        simp only [e42, ep0, o39, n40, n41, or_self, true_and, false_and, if_true, if_false]
        rcases o42 with o42 | o42
        · have e42 := eq_true o42
          simp (maxDischargeDepth := 40) [Zp, hself, hlo, hX, hnode, tags_run, c2, e42, ep0, o39, n40, n41, ks] at hr
          rw [← hr]
          exact Wv.stay h _
        · have e43 := eq_true o42
          have n42 : ¬ n.op = 42 := by omega
          simp (maxDischargeDepth := 40) [Zp, hself, hlo, hX, hnode, tags_run, c2, n42, e43, ep0, o39, n40, n41, ks] at hr
          rw [← hr]
          exact Wv.stay h _
      · simp only [e42, p0, o39, n40, n41, n44, or_self, and_false, false_and, if_false]
        rcases o42 with o42 | o42
        · have e42 := eq_true o42
          simp (maxDischargeDepth := 40) [Zp, hself, hlo, hX, hnode, tags_run, c2, e42, p0, o39, n40, n41, n44, ks] at hr
          generalize hA : R Zf _ _ = q at hr
          obtain ⟨id, H2, rfl, hW⟩ := mk _ (by ((repeat (first | exact Keeps.refl _ | assumption | refine Keeps.new' ?_ _ | refine Keeps.set ?_ ?_ _)) <;> (first | assumption | (simp; done) | (simp; omega)))) _ hA
          simp at hr
          rw [← hr]
          exact hW
        · have e43 := eq_true o42
          have n42 : ¬ n.op = 42 := by omega
          simp (maxDischargeDepth := 40) [Zp, hself, hlo, hX, hnode, tags_run, c2, n42, e43, p0, o39, n40, n41, n44, ks] at hr
          generalize hA : R Zf _ _ = q at hr
          obtain ⟨id, H2, rfl, hW⟩ := mk _ (by ((repeat (first | exact Keeps.refl _ | assumption | refine Keeps.new' ?_ _ | refine Keeps.set ?_ ?_ _)) <;> (first | assumption | (simp; done) | (simp; omega)))) _ hA
          simp at hr
          rw [← hr]
          exact hW
    have n42 : ¬ n.op = 42 := fun hh => o42 (.inl hh)
    have n43 : ¬ n.op = 43 := fun hh => o42 (.inr hh)
    by_cases o44 : n.op = 44
    · have e44 := eq_true o44
      by_cases p1 : n.p = 1
      · have ep1 := eq_true p1
        simp only [e44, ep1, o39, n40, n41, n42, n43, or_self, true_and, false_and, if_true, if_false]
        simp (maxDischargeDepth := 40) [Zp, hself, hlo, hX, hnode, tags_run, c2, e44, ep1, o39, n40, n41, n42, n43] at hr
        rw [← hr]
        exact Wv.stay h _
      · simp only [e44, p1, o39, n40, n41, n42, n43, or_self, and_false, false_and, if_false]
        simp (maxDischargeDepth := 40) [Zp, hself, hlo, hX, hnode, tags_run, c2, e44, p1, o39, n40, n41, n42, n43] at hr
        generalize hA : R Zf _ _ = q at hr
        obtain ⟨id, H2, rfl, hW⟩ := mk _ (by ((repeat (first | exact Keeps.refl _ | assumption | refine Keeps.new' ?_ _ | refine Keeps.set ?_ ?_ _)) <;> (first | assumption | (simp; done) | (simp; omega)))) _ hA
        simp at hr
        rw [← hr]
        exact hW
    · simp only [o44, o39, n40, n41, n42, n43, or_self, false_and, if_false]
      simp (maxDischargeDepth := 40) [Zp, hself, hlo, hX, hnode, tags_run, c2, o44, o39, n40, n41, n42, n43] at hr
      generalize hA : R Zf _ _ = q at hr
      obtain ⟨id, H2, rfl, hW⟩ := mk _ (by ((repeat (first | exact Keeps.refl _ | assumption | refine Keeps.new' ?_ _ | refine Keeps.set ?_ ?_ _)) <;> (first | assumption | (simp; done) | (simp; omega)))) _ hA
      simp at hr
      rw [← hr]
      exact hW
theorem choice_run {f : Nat} (h : WG H w dn g most ns F 0) {n : Nd} {r : Option (AV × AHeap)}
    (hr : R Zbh [.ptr w 0, .agg n.cs] H = r) : Wv H w dn g most F (exF most f ns n (iteC ns n)) r := by
  rw [Ze0] at hr
  have hself := h.self
  have hlo := h.lo
  have k1 : Keeps H (H.new (.cells n.cs)) := (Keeps.refl H).new' _
  have hval := value_run (h.keeps k1) n.a
  have mk := fun (H1 : AHeap) (k : Keeps H H1) (r : Option (AV × AHeap)) (hr : R Zf [.ptr w 0, .agg n.cs] H1 = r) => mk_up (f := f) h k hr
  unfold iteC conF
  obtain ⟨k, hk⟩ : ∃ k, k = ndF ns n.a := ⟨_, rfl⟩
  rw [← hk] at hval ⊢
  obtain ⟨nu1, nu2, nu3⟩ := nd_v k
  simp only [Nd.parts'] at hr mk hval
  by_cases c1 : n.b = n.c
  · have e1 := eq_true c1
    rw [if_pos c1]
    simp (maxDischargeDepth := 40) [Zbp, hval, e1] at hr
    rw [← hr]
    exact Wv.stay h _
  rw [if_neg c1]
  by_cases c2 : k.op = 1
  · have e2 := eq_true c2
    rw [if_pos c2]
    simp only [nu1]
    by_cases c3 : k.vl = 1#64
    · have e3 := eq_true c3
      rw [if_pos c3]
      simp (maxDischargeDepth := 40) [Zbp, hval, c1, e2, e3] at hr
      rw [← hr]
      exact Wv.stay h _
    · rw [if_neg c3]
      simp (maxDischargeDepth := 40) [Zbp, hval, c1, e2, c3] at hr
      rw [← hr]
      exact Wv.stay h _
  · rw [if_neg c2]
    simp only
    simp (maxDischargeDepth := 40) [Zbp, hval, c1, c2] at hr
    generalize hA : R Zf _ _ = q at hr
    obtain ⟨id, H2, rfl, hW⟩ := mk _ (by ((repeat (first | exact Keeps.refl _ | assumption | refine Keeps.new' ?_ _ | refine Keeps.set ?_ ?_ _)) <;> (first | assumption | (simp; done) | (simp; omega)))) _ hA
    simp at hr
    rw [← hr]
    exact hW
end
end Go.Proofs.Ytiobohfiaapgeaa
end
section
namespace Go.Proofs.Ytiobohfiaapgeaa
set_option maxRecDepth 100000
set_option maxHeartbeats 4000000
section
variable {H : AHeap} {w dn g : Nat} {most : Int} {ns : List Nd} {F : List Nat} {e : Int}
theorem zero_run (h : WG H w dn g most ns F e) {n : Nd} : R Zbt [.ptr w 0, .agg n.cs] H = some (.agg [.int .i64 (if n.op = 14 ∨ n.op = 19 then (ndF ns n.a).sort else 0), u 0#64, u 0#64], H) := by
  rw [Zfc]
  have hself := h.self
  have hlo := h.lo
  have kn := ((Keeps.refl H).new' (.cells n.cs)).new' (.cells [.int .i64 0, u 0#64, u 0#64])
  have hnode := (h.keeps kn).node n.a
  obtain ⟨k, hk⟩ : ∃ k, k = ndF ns n.a := ⟨_, rfl⟩
  rw [← hk] at hnode ⊢
  simp only [Nd.parts'] at hnode ⊢
  by_cases c1 : n.op = 14
  · have e1 := eq_true c1
    simp (maxDischargeDepth := 40) [Zb9, hself, hlo, hnode, e1]
  by_cases c2 : n.op = 19
  · have e2 := eq_true c2
    simp (maxDischargeDepth := 40) [Zb9, hself, hlo, hnode, c1, e2]
  · simp (maxDischargeDepth := 40) [Zb9, c1, c2]
theorem is_run (h : WG H w dn g most ns F e) {id : Int} {c : BitVec 64} : R Z2 [.ptr w 0, .int .i64 id, u c] H = some (.bool (isF ns id c), H) := by
  rw [Zfl]
  have hval := value_run h id
  unfold isF conF
  obtain ⟨k, hk⟩ : ∃ k, k = ndF ns id := ⟨_, rfl⟩
  rw [← hk] at hval ⊢
  obtain ⟨nu1, nu2, nu3⟩ := nd_v k
  by_cases c1 : k.op = 1
  · have e1 := eq_true c1
    rw [if_pos c1]
    simp only [nu1, nu2, nu3]
    by_cases c2 : 0 < k.vw
    · by_cases c3 : k.vl = c
      · have e3 := eq_true c3
        simp (maxDischargeDepth := 40) [Zb4, hval, e1, c2, e3]
      · simp (maxDischargeDepth := 40) [Zb4, hval, e1, c2, c3]
    · simp (maxDischargeDepth := 40) [Zb4, hval, e1, c2]
  · rw [if_neg c1]
    simp (maxDischargeDepth := 40) [Zb4, hval, c1]
theorem wlogic_run {f : Nat} (hC : NormC f) (h : WG H w dn g most ns F 0) (gk : Gok ns) {n : Nd} {look : ByteArray → Option Vl} (P : ∀ c, logicF ns n = some c → PV look ns n c ∧ (exF most f ns n c).2.2 ≠ -1) {r : Option (AV × AHeap)}
    (hr : R Zbj [.ptr w 0, .agg n.cs] H = r) : match logicF ns n with | none => r = some (.int .i64 0, H) | some c => Wv H w dn g most F (exF most f ns n c) r := by
  rw [Ze7] at hr
  have hself := h.self
  have hlo := h.lo
  have k1 := (Keeps.refl H).new' (.cells n.cs)
  have va := value_run (h.keeps k1) n.a
  have vb := value_run (h.keeps ((k1.new' (.cells [.int .i64 0, u 0#64, u 0#64])).set (o := H.size + 1) (by simp) (.cells [.int .i64 (ndF ns n.a).vw, u (ndF ns n.a).vl, u (ndF ns n.a).vh]))) n.b
  have ag := fun (m : Nd) (hm : logicF ns n = some (.again m)) (H1 : AHeap) (k : Keeps H H1) (r : Option (AV × AHeap)) (hr : R Zj [.ptr w 0, .agg m.cs] H1 = r) => again_up hC h gk (P _ hm).2 (P _ hm).1 k hr
  have co := fun (v : Vl) (H1 : AHeap) (k : Keeps H H1) (r : Option (AV × AHeap)) (hr : R Zg [.ptr w 0, .agg [.int .i64 v.w, u (lo v.n), u (hi v.n)]] H1 = r) => con_up (f := f) (n := n) h k hr
  have hb := fun H => bool_run (b := true) (H := H)
  clear P
  obtain ⟨ka, hka⟩ : ∃ k, k = ndF ns n.a := ⟨_, rfl⟩
  obtain ⟨kb, hkb⟩ : ∃ k, k = ndF ns n.b := ⟨_, rfl⟩
  rw [← hka] at va vb
  rw [← hkb] at vb
  obtain ⟨na1, na2, na3⟩ := nd_v ka
  obtain ⟨nb1, nb2, nb3⟩ := nd_v kb
  simp only [Nd.parts'] at hr va vb
  by_cases o1 : n.op < 4
  · rw [show logicF ns n = none by simp [logicF, o1]]
    simp (maxDischargeDepth := 40) [Zi, o1] at hr
    exact hr.symm
  by_cases o2 : 8 < n.op
  · rw [show logicF ns n = none by simp [logicF, o2]]
    simp (maxDischargeDepth := 40) [Zi, o1, o2] at hr
    exact hr.symm
  by_cases a1 : ka.op = 1
  · have ea := eq_true a1
    by_cases vw : 0 < ka.vw
    · rw [show logicF ns n = none by simp [logicF, conF, logicC, o1, o2, ← hka, na3, ea, vw]]
      simp (maxDischargeDepth := 40) [Zi, o1, o2, va, ea, vw] at hr
      exact hr.symm
    by_cases p4 : n.op = 4
    · have q4 := eq_true p4
      have m5 : ¬ n.op = 5 := by omega
      have m6 : ¬ n.op = 6 := by omega
      have m7 : ¬ n.op = 7 := by omega
      have m8 : ¬ n.op = 8 := by omega
      by_cases y : ka.vl = 1#64
      · have y := eq_true y
        have hl : logicF ns n = some (.at n.b) := by simp [logicF, conF, logicC, Vl.yes, o1, o2, ← hka, na1, na3, ea, vw, q4, y]
        rw [hl]
        simp (maxDischargeDepth := 40) [Zi, o1, o2, va, ea, vw, q4, y] at hr
        rw [← hr]
        exact Wv.stay h _
      · skip
        have hl : logicF ns n = some (.at n.a) := by simp [logicF, conF, logicC, Vl.yes, o1, o2, ← hka, na1, na3, ea, vw, q4, y]
        rw [hl]
        simp (maxDischargeDepth := 40) [Zi, o1, o2, va, ea, vw, q4, y] at hr
        rw [← hr]
        exact Wv.stay h _
    by_cases p5 : n.op = 5
    · have q5 := eq_true p5
      have m4 : ¬ n.op = 4 := by omega
      have m6 : ¬ n.op = 6 := by omega
      have m7 : ¬ n.op = 7 := by omega
      have m8 : ¬ n.op = 8 := by omega
      by_cases y : ka.vl = 1#64
      · have y := eq_true y
        have hl : logicF ns n = some (.at n.a) := by simp [logicF, conF, logicC, Vl.yes, o1, o2, ← hka, na1, na3, ea, vw, m4, q5, y]
        rw [hl]
        simp (maxDischargeDepth := 40) [Zi, o1, o2, va, ea, vw, m4, q5, y] at hr
        rw [← hr]
        exact Wv.stay h _
      · skip
        have hl : logicF ns n = some (.at n.b) := by simp [logicF, conF, logicC, Vl.yes, o1, o2, ← hka, na1, na3, ea, vw, m4, q5, y]
        rw [hl]
        simp (maxDischargeDepth := 40) [Zi, o1, o2, va, ea, vw, m4, q5, y] at hr
        rw [← hr]
        exact Wv.stay h _
    by_cases p6 : n.op = 6
    · have q6 := eq_true p6
      have m4 : ¬ n.op = 4 := by omega
      have m5 : ¬ n.op = 5 := by omega
      have m7 : ¬ n.op = 7 := by omega
      have m8 : ¬ n.op = 8 := by omega
      by_cases y : ka.vl = 1#64
      · have y := eq_true y
        have hl : logicF ns n = some (.again (nodeO 3 n.b 0 0 0 0)) := by simp [logicF, conF, logicC, Vl.yes, o1, o2, ← hka, na1, na3, ea, vw, m4, m5, m7, q6, y]
        have ag := ag _ hl
        simp only [Nd.parts', nodeO] at ag
        rw [hl]
        simp (maxDischargeDepth := 40) [Zi, o1, o2, va, ea, vw, m4, m5, m7, q6, y] at hr
        generalize hA : R Zj _ _ = q at hr
        obtain ⟨id, H2, rfl, hW⟩ := ag _ (by ((repeat (first | exact Keeps.refl _ | assumption | refine Keeps.new' ?_ _ | refine Keeps.set ?_ ?_ _)) <;> (first | assumption | (simp; done) | (simp; omega)))) _ hA
        simp at hr
        rw [← hr]
        exact hW
      · skip
        have hl : logicF ns n = some (.at n.b) := by simp [logicF, conF, logicC, Vl.yes, o1, o2, ← hka, na1, na3, ea, vw, m4, m5, m7, q6, y]
        rw [hl]
        simp (maxDischargeDepth := 40) [Zi, o1, o2, va, ea, vw, m4, m5, m7, q6, y] at hr
        rw [← hr]
        exact Wv.stay h _
    by_cases p7 : n.op = 7
    · have q7 := eq_true p7
      have m4 : ¬ n.op = 4 := by omega
      have m5 : ¬ n.op = 5 := by omega
      have m6 : ¬ n.op = 6 := by omega
      have m8 : ¬ n.op = 8 := by omega
      by_cases y : ka.vl = 1#64
      · have y := eq_true y
        have hl : logicF ns n = some (.at n.b) := by simp [logicF, conF, logicC, Vl.yes, o1, o2, ← hka, na1, na3, ea, vw, m4, m5, q7, y]
        rw [hl]
        simp (maxDischargeDepth := 40) [Zi, o1, o2, va, ea, vw, m4, m5, q7, y] at hr
        rw [← hr]
        exact Wv.stay h _
      · skip
        have hl : logicF ns n = some (.con (Vl.bool true)) := by simp [logicF, conF, logicC, Vl.yes, o1, o2, ← hka, na1, na3, ea, vw, m4, m5, q7, y]
        rw [hl]
        simp (maxDischargeDepth := 40) [Zi, o1, o2, va, ea, vw, m4, m5, q7, y, hb] at hr
        generalize hA : R Zg _ _ = q at hr
        obtain ⟨id, H2, rfl, hW⟩ := co (Vl.bool true) _ (by ((repeat (first | exact Keeps.refl _ | assumption | refine Keeps.new' ?_ _ | refine Keeps.set ?_ ?_ _)) <;> (first | assumption | (simp; done) | (simp; omega)))) _ hA
        simp at hr
        rw [← hr]
        exact hW
    have p8 : n.op = 8 := by omega
    have q8 := eq_true p8
    have m4 : ¬ n.op = 4 := by omega
    have m5 : ¬ n.op = 5 := by omega
    have m6 : ¬ n.op = 6 := by omega
    have m7 : ¬ n.op = 7 := by omega
    by_cases y : ka.vl = 1#64
    · have y := eq_true y
      have hl : logicF ns n = some (.at n.b) := by simp [logicF, conF, logicC, Vl.yes, o1, o2, ← hka, na1, na3, ea, vw, m4, m5, m6, m7, y]
      rw [hl]
      simp (maxDischargeDepth := 40) [Zi, o1, o2, va, ea, vw, m4, m5, m6, m7, y] at hr
      rw [← hr]
      exact Wv.stay h _
    · skip
      have hl : logicF ns n = some (.again (nodeO 3 n.b 0 0 0 0)) := by simp [logicF, conF, logicC, Vl.yes, o1, o2, ← hka, na1, na3, ea, vw, m4, m5, m6, m7, y]
      have ag := ag _ hl
      simp only [Nd.parts', nodeO] at ag
      rw [hl]
      simp (maxDischargeDepth := 40) [Zi, o1, o2, va, ea, vw, m4, m5, m6, m7, y] at hr
      generalize hA : R Zj _ _ = q at hr
      obtain ⟨id, H2, rfl, hW⟩ := ag _ (by ((repeat (first | exact Keeps.refl _ | assumption | refine Keeps.new' ?_ _ | refine Keeps.set ?_ ?_ _)) <;> (first | assumption | (simp; done) | (simp; omega)))) _ hA
      simp at hr
      rw [← hr]
      exact hW
  by_cases p7 : n.op = 7
  · have q7 := eq_true p7
    rw [show logicF ns n = none by simp [logicF, conF, ← hka, a1, q7]]
    simp (maxDischargeDepth := 40) [Zi, o1, o2, va, a1, q7] at hr
    exact hr.symm
  by_cases b1 : kb.op = 1
  · have eb := eq_true b1
    by_cases vw : 0 < kb.vw
    · rw [show logicF ns n = none by simp [logicF, conF, logicC, o1, o2, ← hka, ← hkb, nb3, a1, p7, eb, vw]]
      simp (maxDischargeDepth := 40) [Zi, o1, o2, va, vb, a1, p7, eb, vw] at hr
      exact hr.symm
    by_cases p4 : n.op = 4
    · have q4 := eq_true p4
      have m5 : ¬ n.op = 5 := by omega
      have m6 : ¬ n.op = 6 := by omega
      have m7 : ¬ n.op = 7 := by omega
      have m8 : ¬ n.op = 8 := by omega
      by_cases y : kb.vl = 1#64
      · have y := eq_true y
        have hl : logicF ns n = some (.at n.a) := by simp [logicF, conF, logicC, Vl.yes, o1, o2, ← hka, ← hkb, nb1, nb3, a1, p7, eb, vw, q4, y]
        rw [hl]
        simp (maxDischargeDepth := 40) [Zi, o1, o2, va, vb, a1, p7, eb, vw, q4, y] at hr
        rw [← hr]
        exact Wv.stay h _
      · skip
        have hl : logicF ns n = some (.at n.b) := by simp [logicF, conF, logicC, Vl.yes, o1, o2, ← hka, ← hkb, nb1, nb3, a1, p7, eb, vw, q4, y]
        rw [hl]
        simp (maxDischargeDepth := 40) [Zi, o1, o2, va, vb, a1, p7, eb, vw, q4, y] at hr
        rw [← hr]
        exact Wv.stay h _
    by_cases p5 : n.op = 5
    · have q5 := eq_true p5
      have m4 : ¬ n.op = 4 := by omega
      have m6 : ¬ n.op = 6 := by omega
      have m7 : ¬ n.op = 7 := by omega
      have m8 : ¬ n.op = 8 := by omega
      by_cases y : kb.vl = 1#64
      · have y := eq_true y
        have hl : logicF ns n = some (.at n.b) := by simp [logicF, conF, logicC, Vl.yes, o1, o2, ← hka, ← hkb, nb1, nb3, a1, p7, eb, vw, m4, q5, y]
        rw [hl]
        simp (maxDischargeDepth := 40) [Zi, o1, o2, va, vb, a1, p7, eb, vw, m4, q5, y] at hr
        rw [← hr]
        exact Wv.stay h _
      · skip
        have hl : logicF ns n = some (.at n.a) := by simp [logicF, conF, logicC, Vl.yes, o1, o2, ← hka, ← hkb, nb1, nb3, a1, p7, eb, vw, m4, q5, y]
        rw [hl]
        simp (maxDischargeDepth := 40) [Zi, o1, o2, va, vb, a1, p7, eb, vw, m4, q5, y] at hr
        rw [← hr]
        exact Wv.stay h _
    by_cases p6 : n.op = 6
    · have q6 := eq_true p6
      have m4 : ¬ n.op = 4 := by omega
      have m5 : ¬ n.op = 5 := by omega
      have m7 : ¬ n.op = 7 := by omega
      have m8 : ¬ n.op = 8 := by omega
      by_cases y : kb.vl = 1#64
      · have y := eq_true y
        have hl : logicF ns n = some (.again (nodeO 3 n.a 0 0 0 0)) := by simp [logicF, conF, logicC, Vl.yes, o1, o2, ← hka, ← hkb, nb1, nb3, a1, p7, eb, vw, m4, m5, q6, y]
        have ag := ag _ hl
        simp only [Nd.parts', nodeO] at ag
        rw [hl]
        simp (maxDischargeDepth := 40) [Zi, o1, o2, va, vb, a1, p7, eb, vw, m4, m5, q6, y] at hr
        generalize hA : R Zj _ _ = q at hr
        obtain ⟨id, H2, rfl, hW⟩ := ag _ (by ((repeat (first | exact Keeps.refl _ | assumption | refine Keeps.new' ?_ _ | refine Keeps.set ?_ ?_ _)) <;> (first | assumption | (simp; done) | (simp; omega)))) _ hA
        simp at hr
        rw [← hr]
        exact hW
      · skip
        have hl : logicF ns n = some (.at n.a) := by simp [logicF, conF, logicC, Vl.yes, o1, o2, ← hka, ← hkb, nb1, nb3, a1, p7, eb, vw, m4, m5, q6, y]
        rw [hl]
        simp (maxDischargeDepth := 40) [Zi, o1, o2, va, vb, a1, p7, eb, vw, m4, m5, q6, y] at hr
        rw [← hr]
        exact Wv.stay h _
    have p8 : n.op = 8 := by omega
    have q8 := eq_true p8
    have m4 : ¬ n.op = 4 := by omega
    have m5 : ¬ n.op = 5 := by omega
    have m6 : ¬ n.op = 6 := by omega
    have m7 : ¬ n.op = 7 := by omega
    by_cases y : kb.vl = 1#64
    · have y := eq_true y
      have hl : logicF ns n = some (.at n.a) := by simp [logicF, conF, logicC, Vl.yes, o1, o2, ← hka, ← hkb, nb1, nb3, a1, p7, eb, vw, m4, m5, m6, y]
      rw [hl]
      simp (maxDischargeDepth := 40) [Zi, o1, o2, va, vb, a1, p7, eb, vw, m4, m5, m6, y] at hr
      rw [← hr]
      exact Wv.stay h _
    · skip
      have hl : logicF ns n = some (.again (nodeO 3 n.a 0 0 0 0)) := by simp [logicF, conF, logicC, Vl.yes, o1, o2, ← hka, ← hkb, nb1, nb3, a1, p7, eb, vw, m4, m5, m6, y]
      have ag := ag _ hl
      simp only [Nd.parts', nodeO] at ag
      rw [hl]
      simp (maxDischargeDepth := 40) [Zi, o1, o2, va, vb, a1, p7, eb, vw, m4, m5, m6, y] at hr
      generalize hA : R Zj _ _ = q at hr
      obtain ⟨id, H2, rfl, hW⟩ := ag _ (by ((repeat (first | exact Keeps.refl _ | assumption | refine Keeps.new' ?_ _ | refine Keeps.set ?_ ?_ _)) <;> (first | assumption | (simp; done) | (simp; omega)))) _ hA
      simp at hr
      rw [← hr]
      exact hW
  · rw [show logicF ns n = none by simp [logicF, conF, ← hka, ← hkb, a1, b1, p7]]
    simp (maxDischargeDepth := 40) [Zi, o1, o2, va, vb, a1, b1, p7] at hr
    exact hr.symm
end
end Go.Proofs.Ytiobohfiaapgeaa
end
section
namespace Go.Proofs.Ytiobohfiaapgeaa
set_option maxRecDepth 100000
set_option maxHeartbeats 1000000 in
theorem bvnew_run {w : Nat} (h1 : 1 ≤ w) (hw : w ≤ 128) {x : W128} {H : AHeap} : Pure R Zga [.int .i64 w, u (lo x), u (hi x)] H (.tup [B (x.setWidth w), .int .i64 0]) := by
  unfold Pure
  rw [Zi1]
  have c1 : ¬ (w : Int) < 1 := by omega
  have c2 : ¬ 128 < (w : Int) := by omega
  have c3 : ¬ 128 < w := by omega
  have c4 : ¬ w < 1 := by omega
  have c5 : ¬ w = 0 := by omega
  simp (maxDischargeDepth := 40) [Zin, B, Bt, hw, c1, c2]
end Go.Proofs.Ytiobohfiaapgeaa
end
section
namespace Go.Proofs.Ytiobohfiaapgeaa
set_option maxRecDepth 100000
set_option maxHeartbeats 4000000
section
variable {H : AHeap} {w dn g : Nat} {most : Int} {ns : List Nd} {F : List Nat} {e : Int}
theorem norm_err (h : WG H w dn g most ns F e) (he : ¬ e = 0) {n : Nd} : R Zj [.ptr w 0, .agg n.cs] H = some (.int .i64 0, H) := by
  rw [Zdu]
  have hself := h.self
  have hlo := h.lo
  simp only [Nd.parts']
  simp (maxDischargeDepth := 40) [Zbm, hself, hlo, he]
theorem make_err (h : WG H w dn g most ns F e) (he : ¬ e = 0) {n : Nd} {r : Option (AV × AHeap)} (hr : R Zf [.ptr w 0, .agg n.cs] H = r) :
    ∃ H' F' ns' id, r = some (.int .i64 id, H') ∧ WG H' w dn g most ns' F' e ∧ Fr (w :: F) H H' ∧ ∀ p, p ∈ F' → p ∈ F ∨ H.size ≤ p := by
  rw [Zdv] at hr
  have hcs : ∃ op sort a b c p q vw vl vh name, n = ⟨op, sort, a, b, c, p, q, vw, vl, vh, name⟩ := ⟨_, _, _, _, _, _, _, _, _, _, _, rfl⟩
  obtain ⟨op, sort, a, b, c, p, q, vw, vl, vh, name, hn⟩ := hcs
  have hcs : n.cs = [.int .i64 op, .int .i64 sort, .int .i64 a, .int .i64 b, .int .i64 c, .int .i64 p, .int .i64 q, .int .i64 vw, u vl, u vh, .str name] := by rw [hn]; rfl
  rw [hcs] at hr
  simp (maxDischargeDepth := 40) [Zcx, h.self, h.lo] at hr
  rw [← hcs] at hr
  generalize hA : R Zn _ _ = q at hr
  have kn := Keeps.new H (.cells n.cs)
  obtain ⟨H1, F1, rfl, G1, m1⟩ := mk_run (h.G.keeps kn) hA
  have k1 : Fr F H H1 := (kn.fr _).trans m1.fr fun p hp => .inl hp
  have hw : w ∉ F := fun hm => (h.off w hm).1 rfl
  have o1 : H1.obj w = .cells [.ptr g 0, .map dn, .int .i64 e] := by rw [k1.obj w h.lo hw]; exact h.self
  have l1 := k1.lt h.lo
  have n1 : ∀ p, p ∈ F1 → p ∈ F ∨ H.size ≤ p := fun p hp => by
    rcases m1.new p hp with h | h
    · exact .inl h
    · simp at h; exact .inr (by omega)
  simp (maxDischargeDepth := 40) [o1, he] at hr
  have k2 : Fr (w :: F) H H1 := k1.weak fun p hp => .inl (by simp [hp])
  have off1 : ∀ p, p ∈ F1 → p ≠ w ∧ p ≠ dn := fun p hp => by
    rcases n1 p hp with h1 | h1
    · exact h.off p h1
    · have := h.lo; have := h.ld; omega
  have g2 : WG H1 w dn g most (makT most ns n).1 F1 e := ⟨o1, l1, k2.lt h.ld, G1, off1, h.ne⟩
  obtain ⟨D, hD, g3, k3⟩ := h.back g2 k2 (makT most ns n).2.1
  rw [hD] at hr
  exact ⟨D, F1, _, _, hr.symm, g3, k3, n1⟩
theorem shl_up {f : Nat} (hC : NormC f) (h : WG H w dn g most ns F 0) (gk : Gok ns) {n : Nd} {x : Int} {v : Vl} {look : ByteArray → Option Vl} (P : PV look ns n (.shl x v)) (hne : (exF most f ns n (.shl x v)).2.2 ≠ -1) {H1 : AHeap} (k : Keeps H H1) {r1 : Option (AV × AHeap)} (hr1 : R Zg [.ptr w 0, .agg [.int .i64 v.w, u (lo v.n), u (hi v.n)]] H1 = r1) :
    ∃ id1 H2, r1 = some (.int .i64 id1, H2) ∧ (∀ p, H.size ≤ p → p < H1.size → H2.obj p = H1.obj p) ∧ ∀ r, R Zj [.ptr w 0, .agg (nodeO 26 x id1 0 0 0).cs] H2 = r → ∃ id H3, r = some (.int .i64 id, H3) ∧ Wv H w dn g most F (exF most f ns n (.shl x v)) (some (back [] H (.int .i64 id) H3)) := by
  obtain ⟨H2, F2, ns2, id1, e2, rfl, g2, k2, n2, ok, bad⟩ := constant_run (h.keeps k) hr1 fun _ _ k' hr' => make_run ((h.keeps k).keeps k') hr'
  refine ⟨id1, H2, rfl, fun p h1 h2 => k2.obj p h2 fun hp => ?_, fun r hr => ?_⟩
  · rcases List.mem_cons.1 hp with rfl | hp
    · have := h.lo; omega
    · have := h.G.ltF hp; omega
  have hsz := k.size
  have k12 : Fr (w :: F) H H2 := (k.fr _).trans k2 fun p hp => .inl hp
  obtain ⟨v1, v2, v3, x1, x2, x3, -⟩ := P
  obtain ⟨c1, c2⟩ := con_formed (ns := ns) v1
  unfold exF at hne ⊢
  simp only at hne ⊢
  by_cases h0 : (makT most ns (constN v)).2.2 = 0
  · rw [if_pos h0] at hne ⊢
    obtain ⟨rfl, rfl, rfl⟩ := ok h0
    have M := NV.made (n := constN v) gk c1 (by rw [c2]) (by simp [constN]) h0
    rw [c2] at M
    obtain ⟨X, hX⟩ : ∃ X, X = makT most ns (constN v) := ⟨_, rfl⟩
    rw [← hX] at M hne g2 hr ⊢
    obtain ⟨t, ht, hno⟩ := M.more
    have hle : ns.length ≤ X.1.length := by rw [ht]; simp
    have hxs : (ndF X.1 x).sort = v.w := by rw [ht, ndF_more x1 x2]; exact x3
    have hw128 := (ok_w v1).2
    obtain ⟨s1, s2⟩ := sorted_shl (x := x) (c := X.2.1) x1 (by omega) M.lo M.hi hxs (by rw [M.srt]; rfl) v3 hw128
    obtain ⟨H3, F3, ns3, id, e3, rfl, g3, k3, n3, ok3, bad3⟩ := hC g2 M.gok s1 (by rw [s2]) hne hr
    have k13 : Fr (w :: F) H H3 := k12.trans k3 fun p hp => by
      rcases List.mem_cons.1 hp with rfl | hp
      · exact .inl (by simp)
      · rcases n2 p hp with h | h
        · exact .inl (by simp [h])
        · exact .inr (by omega)
    obtain ⟨D, hD, g4, k4⟩ := h.back g3 k13 id
    have hs2 := k2.size
    refine ⟨id, H3, rfl, D, F3, ns3, id, e3, by rw [hD], g4, k4, fun p hp => ?_, ok3, bad3⟩
    rcases n3 p hp with h | h
    · rcases n2 p h with h | h
      · exact .inl h
      · exact .inr (by omega)
    · exact .inr (by omega)
  · rw [if_neg h0] at hne ⊢
    have hb := bad h0
    have he : ¬ e2 = 0 := by rw [hb]; exact h0
    rw [norm_err g2 he] at hr
    obtain ⟨D, hD, g4, k4⟩ := h.back g2 k12 0
    refine ⟨0, H2, hr.symm, D, F2, ns2, 0, e2, by rw [hD], g4, k4, fun p hp => ?_, fun hh => absurd hh h0, fun _ => hb⟩
    rcases n2 p hp with h | h
    · exact .inl h
    · exact .inr (by omega)
theorem rshl_run {N : Nat} (h1 : 1 ≤ N) (hN : N ≤ 128) {i : Nat} (hi' : i < N) {x : BitVec N} {H : AHeap} : R Ze4 [B x, .int .i64 i] H = some (B ((shiftF 26 x (BitVec.ofNat N i)).setWidth N), H) := by
  rw [Zhx]
  have hl : lo (BitVec.ofNat 128 i : W128) = BitVec.ofNat 64 i := by
    apply BitVec.eq_of_toNat_eq
    simp [lo]
  have hh : hi (BitVec.ofNat 128 i : W128) = 0#64 := by
    apply BitVec.eq_of_toNat_eq
    simp [hi, Nat.shiftRight_eq_div_pow]
    omega
  have hnew := fun H => (bvnew_run h1 hN (x := BitVec.ofNat 128 i) (H := H)).run
  have htwo := fun H => (two_run h1 hN (n := 26) (a := x) (b := (BitVec.ofNat 128 i).setWidth N) (H := H)).run
  have e1 : (BitVec.ofNat 128 i).setWidth N = BitVec.ofNat N i := by
    apply BitVec.eq_of_toNat_eq
    simp
    rw [Nat.mod_eq_of_lt (show i < 2 ^ 128 by omega)]
  rw [hl, hh] at hnew
  rw [e1] at hnew htwo
  simp only [twoF, twoE] at htwo
  simp only [B, Bt] at hnew htwo ⊢
  simp (maxDischargeDepth := 40) at htwo
  simp (maxDischargeDepth := 40) [Zgp, hnew, htwo]
end
end Go.Proofs.Ytiobohfiaapgeaa
end
section
namespace Go.Proofs.Ytiobohfiaapgeaa
set_option maxRecDepth 100000
set_option maxHeartbeats 4000000
theorem shl_E {N i : Nat} (hN : N ≤ 128) (hi' : i < N) : E ((shiftF 26 (1#N) (BitVec.ofNat N i)).setWidth N) = 1#128 <<< i := by
  have hlt : i < 2 ^ N := Nat.lt_trans hi' (Nat.lt_two_pow_self)
  have hs : shN (BitVec.ofNat N i) = i := by
    unfold shN
    rw [BitVec.toNat_ofNat, Nat.mod_eq_of_lt hlt, if_pos hi']
  unfold shiftF
  rw [if_pos rfl, hs]
  unfold E
  apply BitVec.eq_of_getLsbD_eq
  intro t ht
  simp only [BitVec.getLsbD_setWidth, BitVec.getLsbD_shiftLeft, ht, decide_true, Bool.true_and, BitVec.getLsbD_one]
  by_cases c : t = i
  · subst c
    simp [hi', show 0 < N by omega, show (0 : Nat) < 128 by omega]
  · have : ¬ (t - i = 0 ∧ i ≤ t) := by omega
    by_cases c2 : t < i
    · simp [c2]
    · have : ¬ t - i = 0 := by omega
      simp [this]
theorem powF_of {N : Nat} (y : BitVec N) : powF (Vl.of y) = (List.range N).find? fun i => decide (E y = 1#128 <<< i) := rfl
section
variable {H0 : AHeap} {w dn g : Nat} {most : Int} {ns : List Nd} {F : List Nat} {e : Int}
theorem pow_loop {f : Nat} (hC : NormC f) (h : WG H0 w dn g most ns F 0) (gk : Gok ns) {n : Nd} {N : Nat} (h1N : 1 ≤ N) (hN : N ≤ 128) {y : BitVec N} {x0 x1 : Int} {look : ByteArray → Option Vl}
    (P : ∀ i, powF (Vl.of y) = some i → PV look ns n (.shl x0 ⟨N, BitVec.ofNat 128 i⟩) ∧ (exF most f ns n (.shl x0 ⟨N, BitVec.ofNat 128 i⟩)).2.2 ≠ -1)
    {H : AHeap} (k : Keeps H0 H) {o6 o7 : Nat} (n6 : H0.size ≤ o6) (l6 : o6 < H.size) (l7 : o7 < H.size) (ob6 : H.obj o6 = .cells [.int .i64 x0, .int .i64 x1]) (ob7 : H.obj o7 = .cells [.int .i64 N, u (lo (E y)), u (hi (E y))]) {ev : Env} {r : Rn}
    (hL : loopL Try.prog KT R Zbk ev H = r) (e0 : ev 0 = some (.ptr w 0)) (e6 : ev 6 = some (.ptr o6 0)) (e7 : ev 7 = some (.ptr o7 0)) (e38 : ev 38 = some (.int .i64 N)) (e39 : ev 39 = some (.int .i64 0)) :
    ∃ x ev' H', r = some (x, ev', H') ∧ ((x = .exit 2 ∧ powF (Vl.of y) = none ∧ Keeps H H') ∨ (x = .ret ∧ ∃ i id, powF (Vl.of y) = some i ∧ ev' 4 = some (.int .i64 id) ∧ Wv H0 w dn g most F (exF most f ns n (.shl x0 ⟨N, BitVec.ofNat 128 i⟩)) (some (back [] H0 (.int .i64 id) H')))) ∧ ∀ t, t ∉ defs Zbk → ev' t = ev t := by
  refine loop_count Zbk.eq_1 hL N (fun i e1 H1 => e1 39 = some (.int .i64 i) ∧ Keeps H H1 ∧ ∀ j, j < i → ¬ E y = 1#128 <<< j) _ 0 (Nat.zero_le _) ⟨e39, Keeps.refl _, by simp⟩ ?_ ?_
  · rintro i e1 H1 hf - hi' ⟨f39, k1, hj⟩
    have w1 : IntKind.i64.wrap ((i : Int) + 1) = (i : Int) + 1 := i64w (by omega) (by omega)
    have c1 : (i : Int) < N := by omega
    have p6 : H1.obj o6 = .cells [.int .i64 x0, .int .i64 x1] := by rw [k1.obj o6 l6]; exact ob6
    have p7 : H1.obj o7 = .cells [.int .i64 N, u (lo (E y)), u (hi (E y))] := by rw [k1.obj o7 l7]; exact ob7
    have m6 := k1.lt l6
    have m7 := k1.lt l7
    have hl : lo (BitVec.ofNat 128 i : W128) = BitVec.ofNat 64 i := by
      apply BitVec.eq_of_toNat_eq
      simp [lo]
    have hh : hi (BitVec.ofNat 128 i : W128) = 0#64 := by
      apply BitVec.eq_of_toNat_eq
      simp [hi, Nat.shiftRight_eq_div_pow]
      omega
    have hone := fun H => (bvnew_run h1N hN (x := 1#128) (H := H)).run
    have hby := fun H => (bvnew_run h1N hN (x := BitVec.ofNat 128 i) (H := H)).run
    rw [hl, hh] at hby
    rw [show (1#128 : W128).setWidth N = 1#N by apply BitVec.eq_of_toNat_eq; simp] at hone
    have e2 : E ((BitVec.ofNat 128 i : W128).setWidth N) = BitVec.ofNat 128 i := by
      unfold E
      apply BitVec.eq_of_toNat_eq
      have hlt : i < 2 ^ N := Nat.lt_trans hi' (Nat.lt_two_pow_self)
      simp
      rw [Nat.mod_eq_of_lt (show i < 2 ^ 128 by omega), Nat.mod_eq_of_lt hlt, Nat.mod_eq_of_lt (show i < 2 ^ 128 by omega)]
    have hsh := fun H => rshl_run h1N hN hi' (x := 1#N) (H := H)
    simp only [B, Bt] at hone hby hsh
    rw [shl_E hN hi'] at hsh
    rw [e2] at hby
    rw [show lo (1#128 : W128) = 1#64 from rfl, show hi (1#128 : W128) = 0#64 from rfl] at hone
    by_cases c : E y = 1#128 <<< i
    · have hp : powF (Vl.of y) = some i := by
        rw [powF_of, List.find?_range_eq_some]
        refine ⟨decide_eq_true c, List.mem_range.2 hi', fun j hji => by simp [hj j hji]⟩
      obtain ⟨P1, P2⟩ := P i hp
      have hsu := fun (H1 : AHeap) (k : Keeps H0 H1) (r : Option (AV × AHeap)) => shl_up hC h gk P1 P2 k (r1 := r)
      rw [← c] at hsh
      rw [hl, hh] at hby
      simp only [Nd.parts', nodeO, hl, hh] at hsu
      have k0 := k.trans k1
      have hld : ∀ ev : Env, ev 6 = some (.ptr o6 0) → ev 62 = some (.ptr o6 0) → markLd [2, 5, 997, 1006] ev (.tmp 62) (.int .i64 x0) = true := fun ev h1 h2 => markLd_one (s := 6) (d := 0) (o := o6) (off := 0) (by rfl) (by rfl) h1 h2 (by rfl)
      have r12 : ((((H1.new (.cells [.int .i64 0, u 0#64, u 0#64])).set H1.size (.cells [.int .i64 N, u (lo (E 1#N)), u (hi (E 1#N))])).new (.cells [.int .i64 0, u 0#64, u 0#64])).set (H1.size + 1) (.cells [.int .i64 N, u (BitVec.ofNat 64 i), u 0#64])).obj (H1.size + 1) = .cells [.int .i64 N, u (BitVec.ofNat 64 i), u 0#64] := by simp
      have m12 : H1.size + 1 < ((((H1.new (.cells [.int .i64 0, u 0#64, u 0#64])).set H1.size (.cells [.int .i64 N, u (lo (E 1#N)), u (hi (E 1#N))])).new (.cells [.int .i64 0, u 0#64, u 0#64])).set (H1.size + 1) (.cells [.int .i64 N, u (BitVec.ofNat 64 i), u 0#64])).size := by simp
      generalize hX : (((H1.new (.cells [.int .i64 0, u 0#64, u 0#64])).set H1.size (.cells [.int .i64 N, u (lo (E 1#N)), u (hi (E 1#N))])).new (.cells [.int .i64 0, u 0#64, u 0#64])).set (H1.size + 1) (.cells [.int .i64 N, u (BitVec.ofNat 64 i), u 0#64]) = HX at r12 m12
      have kX1 : Keeps H1 HX := by rw [← hX]; ((repeat (first | exact Keeps.refl _ | assumption | refine Keeps.new' ?_ _ | refine Keeps.set ?_ ?_ _)) <;> (first | assumption | (simp; done) | (simp; omega)))
      have kX : Keeps H0 HX := k0.trans kX1
      have q6 : HX.obj o6 = .cells [.int .i64 x0, .int .i64 x1] := by rw [kX1.obj o6 m6]; exact p6
      have l6X := kX1.lt m6
      generalize hA : R Zg [.ptr w 0, .agg [.int .i64 N, u (BitVec.ofNat 64 i), u 0#64]] HX = q
      obtain ⟨id1, H2, rfl, hsame, hn2⟩ := hsu _ kX _ hA
      have s6 : H2.obj o6 = HX.obj o6 := hsame o6 n6 (kX1.lt m6)
      have hcl : ∀ ev : Env, ev 6 = some (.ptr o6 0) → markCl [2, 5, 997, 1006] ev HX H2 = true := fun ev h1 => markCl_one (s := 6) (d := 0) (o := o6) (off := 0) (by rfl) (by rfl) h1 (by rw [s6])
      obtain ⟨id, H3, hB, hW⟩ := hn2 _ rfl
      clear hn2 hsu
      simp (maxDischargeDepth := 40) [hf, f39, e0, e6, e7, e38, c1, p7, m7, hone, hby, hsh, hX, hA, hB, hld, hcl, q6, r12]
      exact ⟨i, hp, hW⟩
    · have hn : ¬ (lo (E y) = lo (1#128 <<< i) ∧ hi (E y) = hi (1#128 <<< i)) := fun hx => c (pair_ext hx.1 hx.2)
      simp (maxDischargeDepth := 40) [hf, f39, e7, e38, c1, p7, m7, hone, hsh, eq_false hn]
      simp (maxDischargeDepth := 40) [w1]
      refine ⟨k1.trans (by ((repeat (first | exact Keeps.refl _ | assumption | refine Keeps.new' ?_ _ | refine Keeps.set ?_ ?_ _)) <;> (first | assumption | (simp; done) | (simp; omega)))), fun j hj' => ?_⟩
      rcases Nat.lt_succ_iff_lt_or_eq.1 hj' with h | rfl
      · exact hj j h
      · exact c
  · rintro e1 H1 hf ⟨f39, k1, hj⟩
    simp [hf, f39, e38]
    refine ⟨?_, k1⟩
    rw [powF_of, List.find?_range_eq_none]
    intro j hji
    simp [hj j hji]
end
end Go.Proofs.Ytiobohfiaapgeaa
end
section
namespace Go.Proofs.Ytiobohfiaapgeaa
set_option maxRecDepth 100000
set_option maxHeartbeats 4000000
section
variable {H : AHeap} {w dn g : Nat} {most : Int} {ns : List Nd} {F : List Nat} {e : Int}
theorem con_parts {ns : List Nd} {k : Int} {N : Nat} {y : BitVec N} (h : conF ns k = some (Vl.of y)) : (ndF ns k).op = 1 ∧ (ndF ns k).vw = N ∧ (ndF ns k).vl = lo (E y) ∧ (ndF ns k).vh = hi (E y) := by
  obtain ⟨h1, h2⟩ := conF_cs h
  obtain ⟨n1, n2, n3⟩ := nd_v (ndF ns k)
  rw [← h2] at n1 n2 n3
  exact ⟨h1, n3.symm, n1.symm, n2.symm⟩
theorem double_loop {f : Nat} (hC : NormC f) (h : WG H w dn g most ns F 0) (gk : Gok ns) {n : Nd} {N : Nat} (h1N : 1 ≤ N) (hN : N ≤ 128) {x y : BitVec N} {look : ByteArray → Option Vl} (hA : AllFit look ns) (ha : V look ns n.a = Vl.of x) (hb : V look ns n.b = Vl.of y)
    (P : PV look ns n (doubleF ns n)) (hne : (exF most f ns n (doubleF ns n)).2.2 ≠ -1) {H1 : AHeap} (k : Keeps H H1) {ev : Env} {r : Rn}
    (hL : loopL Try.prog KT R Zbl ev H1 = r) (e0 : ev 0 = some (.ptr w 0)) (e24 : ev 24 = some (.agg [.int .i64 n.a, .int .i64 n.b, .int .i64 n.b, .int .i64 n.a])) (e25 : ev 25 = some (.int .i64 0)) :
    ∃ x ev' H', r = some (x, ev', H') ∧ ((x = .exit 0 ∧ doubleF ns n = .mk ∧ Keeps H1 H') ∨ (x = .ret ∧ ∃ id, ev' 4 = some (.int .i64 id) ∧ Wv H w dn g most F (exF most f ns n (doubleF ns n)) (some (back [] H (.int .i64 id) H')))) ∧ ∀ t, t ∉ defs Zbl → ev' t = ev t := by
  obtain ⟨B1, hB1⟩ : ∃ B1 : Prop, B1 = ((conF ns n.b).bind powF = none) := ⟨_, rfl⟩
  obtain ⟨B2, hB2⟩ : ∃ B2 : Prop, B2 = ((conF ns n.a).bind powF = none) := ⟨_, rfl⟩
  refine loop_count Zbl.eq_1 hL 2 (fun i e1 H2 => e1 25 = some (.int .i64 i) ∧ Keeps H1 H2 ∧ (0 < i → B1) ∧ (1 < i → B2)) _ 0 (Nat.zero_le _) ⟨e25, Keeps.refl _, by simp, by simp⟩ ?_ ?_
  · rintro i e1 H2 hf - hi' ⟨f25, k01, hp1, hp2⟩
    have k1 := k.trans k01
    have w1 : IntKind.i64.wrap ((i : Int) + 1) = (i : Int) + 1 := i64w (by omega) (by omega)
    have c1 : (i : Int) < 2 := by omega
    rcases (by omega : i = 0 ∨ i = 1) with rfl | rfl
    · have hval := value_run (h.keeps ((k1.new' (.cells [.int .i64 0, .int .i64 0])).set (o := H2.size) (Keeps.size k1) (.cells [.int .i64 n.a, .int .i64 n.b]))) n.b
      cases hc : conF ns n.b with
      | none =>
        have hno := conF_no hc
        obtain ⟨kd, hkd⟩ : ∃ k, k = ndF ns n.b := ⟨_, rfl⟩
        rw [← hkd] at hno hval
        simp (maxDischargeDepth := 40) [hf, f25, e0, e24, hval, hno]
        refine ⟨k01.trans (by ((repeat (first | exact Keeps.refl _ | assumption | refine Keeps.new' ?_ _ | refine Keeps.set ?_ ?_ _)) <;> (first | assumption | (simp; done) | (simp; omega)))), by rw [hB1, hc]; rfl⟩
      | some v =>
        have hvv := con_all gk hA hc
        rw [hb] at hvv
        subst hvv
        obtain ⟨q1, q2, q3, q4⟩ := con_parts hc
        rw [q2, q3, q4] at hval
        obtain ⟨kd, hkd⟩ : ∃ k, k = ndF ns n.b := ⟨_, rfl⟩
        rw [← hkd] at q1 hval
        simp (maxDischargeDepth := 40) [hf, f25, e0, e24, hval, q1]
        generalize hL2 : loopL _ _ _ _ _ _ = q
        have kk : Keeps H2 ((((H2.new (.cells [.int .i64 0, .int .i64 0])).set H2.size (.cells [.int .i64 n.a, .int .i64 n.b])).new (.cells [.int .i64 0, u 0#64, u 0#64])).set (H2.size + 1) (.cells [.int .i64 N, u (lo (E y)), u (hi (E y))])) := by ((repeat (first | exact Keeps.refl _ | assumption | refine Keeps.new' ?_ _ | refine Keeps.set ?_ ?_ _)) <;> (first | assumption | (simp; done) | (simp; omega)))
        have hdb : ∀ i, powF (Vl.of y) = some i → doubleF ns n = .shl n.a ⟨N, BitVec.ofNat 128 i⟩ := fun i hpi => by
          unfold doubleF
          
          rw [hc, Option.bind_some, hpi]
          rfl
        obtain ⟨xx, ev2, H3, rfl, hx, fr⟩ := pow_loop hC h gk (n := n) (x0 := n.a) (x1 := n.b) h1N hN (y := y) (fun i hpi => by rw [hdb i hpi] at P hne; exact ⟨P, hne⟩) (k1.trans kk) (o6 := H2.size) (o7 := H2.size + 1) (Keeps.size k1) (by simp) (by simp) (by simp) (by simp) hL2 (by simp [hf, e0]) (by simp) (by simp) (by simp) (by simp)
        rcases hx with ⟨rfl, hp, k3⟩ | ⟨rfl, i, id, hpi, f4, hW⟩
        · simp (maxDischargeDepth := 40) [fr, f25]
          refine ⟨k01.trans (kk.trans k3), by rw [hB1, hc]; exact hp⟩
        · simp (maxDischargeDepth := 40) [f4]
          rw [hdb i hpi]
          exact hW
    · have hval := value_run (h.keeps ((k1.new' (.cells [.int .i64 0, .int .i64 0])).set (o := H2.size) (Keeps.size k1) (.cells [.int .i64 n.b, .int .i64 n.a]))) n.a
      cases hc : conF ns n.a with
      | none =>
        have hno := conF_no hc
        obtain ⟨kd, hkd⟩ : ∃ k, k = ndF ns n.a := ⟨_, rfl⟩
        rw [← hkd] at hno hval
        simp (maxDischargeDepth := 40) [hf, f25, e0, e24, hval, hno]
        refine ⟨k01.trans (by ((repeat (first | exact Keeps.refl _ | assumption | refine Keeps.new' ?_ _ | refine Keeps.set ?_ ?_ _)) <;> (first | assumption | (simp; done) | (simp; omega)))), hp1 (by omega), by rw [hB2, hc]; rfl⟩
      | some v =>
        have hvv := con_all gk hA hc
        rw [ha] at hvv
        subst hvv
        obtain ⟨q1, q2, q3, q4⟩ := con_parts hc
        rw [q2, q3, q4] at hval
        obtain ⟨kd, hkd⟩ : ∃ k, k = ndF ns n.a := ⟨_, rfl⟩
        rw [← hkd] at q1 hval
        simp (maxDischargeDepth := 40) [hf, f25, e0, e24, hval, q1]
        generalize hL2 : loopL _ _ _ _ _ _ = q
        have kk : Keeps H2 ((((H2.new (.cells [.int .i64 0, .int .i64 0])).set H2.size (.cells [.int .i64 n.b, .int .i64 n.a])).new (.cells [.int .i64 0, u 0#64, u 0#64])).set (H2.size + 1) (.cells [.int .i64 N, u (lo (E x)), u (hi (E x))])) := by ((repeat (first | exact Keeps.refl _ | assumption | refine Keeps.new' ?_ _ | refine Keeps.set ?_ ?_ _)) <;> (first | assumption | (simp; done) | (simp; omega)))
        have hdb : ∀ i, powF (Vl.of x) = some i → doubleF ns n = .shl n.b ⟨N, BitVec.ofNat 128 i⟩ := fun i hpi => by
          unfold doubleF
          rw [hB1] at hp1; rw [hp1 (by omega)]; simp only
          rw [hc, Option.bind_some, hpi]
          rfl
        obtain ⟨xx, ev2, H3, rfl, hx, fr⟩ := pow_loop hC h gk (n := n) (x0 := n.b) (x1 := n.a) h1N hN (y := x) (fun i hpi => by rw [hdb i hpi] at P hne; exact ⟨P, hne⟩) (k1.trans kk) (o6 := H2.size) (o7 := H2.size + 1) (Keeps.size k1) (by simp) (by simp) (by simp) (by simp) hL2 (by simp [hf, e0]) (by simp) (by simp) (by simp) (by simp)
        rcases hx with ⟨rfl, hp, k3⟩ | ⟨rfl, i, id, hpi, f4, hW⟩
        · simp (maxDischargeDepth := 40) [fr, f25]
          refine ⟨k01.trans (kk.trans k3), hp1 (by omega), by rw [hB2, hc]; exact hp⟩
        · simp (maxDischargeDepth := 40) [f4]
          rw [hdb i hpi]
          exact hW
  · rintro e1 H2 hf ⟨f25, k1, hp1, hp2⟩
    simp [f25]
    refine ⟨?_, k1⟩
    unfold doubleF
    rw [hB1] at hp1
    rw [hB2] at hp2
    rw [hp1 (by omega), hp2 (by omega)]
theorem doubled_run {f : Nat} (hC : NormC f) (h : WG H w dn g most ns F 0) (gk : Gok ns) {n : Nd} {N : Nat} (h1N : 1 ≤ N) (hN : N ≤ 128) {x y : BitVec N} {look : ByteArray → Option Vl} (hA : AllFit look ns) (ha : V look ns n.a = Vl.of x) (hb : V look ns n.b = Vl.of y)
    (P : PV look ns n (doubleF ns n)) (hne : (exF most f ns n (doubleF ns n)).2.2 ≠ -1) {r : Option (AV × AHeap)} (hr : R Z1 [.ptr w 0, .agg n.cs] H = r) : Wv H w dn g most F (exF most f ns n (doubleF ns n)) r := by
  rw [Zeq] at hr
  have k1 : Keeps H (H.new (.cells n.cs)) := (Keeps.refl H).new' _
  have mk := fun (H1 : AHeap) (k : Keeps H H1) (r : Option (AV × AHeap)) (hr : R Zf [.ptr w 0, .agg n.cs] H1 = r) => mk_up (f := f) h k hr
  simp only [Nd.parts'] at hr mk k1
  simp (maxDischargeDepth := 40) [Zc7] at hr
  generalize hL : loopL _ _ _ _ _ _ = q at hr
  obtain ⟨xx, ev2, H3, rfl, hx, fr⟩ := double_loop hC h gk h1N hN hA ha hb P hne k1 hL (by simp) (by simp) (by simp)
  rcases hx with ⟨rfl, hp, k3⟩ | ⟨rfl, id, f4, hW⟩
  · rw [hp]
    have hob : H3.obj H.size = .cells [.int .i64 n.op, .int .i64 n.sort, .int .i64 n.a, .int .i64 n.b, .int .i64 n.c, .int .i64 n.p, .int .i64 n.q, .int .i64 n.vw, u n.vl, u n.vh, .str n.name] := by rw [k3.obj _ (by simp)]; simp
    have hl1 : H.size < H3.size := by have := k3.size; simp at this; omega
    simp (maxDischargeDepth := 40) [fr, hob] at hr
    generalize hA : R Zf _ _ = q at hr
    obtain ⟨id, H4, rfl, hW⟩ := mk _ (k1.trans k3) _ hA
    simp at hr
    rw [← hr]
    exact hW
  · simp [f4] at hr
    rw [← hr]
    exact hW
end
end Go.Proofs.Ytiobohfiaapgeaa
end
section
namespace Go.Proofs.Ytiobohfiaapgeaa
set_option maxRecDepth 100000
set_option maxHeartbeats 4000000
theorem tb8 {op : Int} (h1 : 0 ≤ op) (h2 : op ≤ 44) : tbit op 8 = 0 ↔ ¬ (op = 12 ∨ op = 20) := tbit_fin (p := fun op => op = 12 ∨ op = 20) (by decide) h1 h2
theorem tb64 {op : Int} (h1 : 0 ≤ op) (h2 : op ≤ 44) : tbit op 64 = 0 ↔ ¬ (op = 26 ∨ op = 27 ∨ op = 28) := tbit_fin (p := fun op => op = 26 ∨ op = 27 ∨ op = 28) (by decide) h1 h2
theorem tb48 {op : Int} (h1 : 0 ≤ op) (h2 : op ≤ 44) : tbit op 48 = 0 ↔ ¬ (op = 13 ∨ op = 14 ∨ op = 18 ∨ op = 19 ∨ op = 26 ∨ op = 27 ∨ op = 28) := tbit_fin (p := fun op => op = 13 ∨ op = 14 ∨ op = 18 ∨ op = 19 ∨ op = 26 ∨ op = 27 ∨ op = 28) (by decide) h1 h2
theorem tb256 {op : Int} (h1 : 0 ≤ op) (h2 : op ≤ 44) : tbit op 256 = 0 ↔ ¬ (op = 20 ∨ op = 21) := tbit_fin (p := fun op => op = 20 ∨ op = 21) (by decide) h1 h2
theorem tb16 {op : Int} (h1 : 0 ≤ op) (h2 : op ≤ 44) : tbit op 16 = 0 ↔ ¬ (op = 13 ∨ op = 14 ∨ op = 18) := tbit_fin (p := fun op => op = 13 ∨ op = 14 ∨ op = 18) (by decide) h1 h2
theorem tb1 {op : Int} (h1 : 0 ≤ op) (h2 : op ≤ 44) : tbit op 1 = 0 ↔ ¬ (op = 4 ∨ op = 5 ∨ op = 12 ∨ op = 13) := tbit_fin (p := fun op => op = 4 ∨ op = 5 ∨ op = 12 ∨ op = 13) (by decide) h1 h2
theorem tb2 {op : Int} (h1 : 0 ≤ op) (h2 : op ≤ 44) : tbit op 2 = 0 ↔ ¬ (op = 6 ∨ op = 29 ∨ op = 31 ∨ op = 33 ∨ op = 35 ∨ op = 14 ∨ op = 19) := tbit_fin (p := fun op => op = 6 ∨ op = 29 ∨ op = 31 ∨ op = 33 ∨ op = 35 ∨ op = 14 ∨ op = 19) (by decide) h1 h2
theorem tb4 {op : Int} (h1 : 0 ≤ op) (h2 : op ≤ 44) : tbit op 4 = 0 ↔ ¬ (op = 8 ∨ op = 30 ∨ op = 32 ∨ op = 34 ∨ op = 36 ∨ op = 7) := tbit_fin (p := fun op => op = 8 ∨ op = 30 ∨ op = 32 ∨ op = 34 ∨ op = 36 ∨ op = 7) (by decide) h1 h2
section
variable {H : AHeap} {w dn g : Nat} {most : Int} {ns : List Nd} {F : List Nat} {e : Int}
theorem beside_err (h : WG H w dn g most ns F e) (he : ¬ e = 0) {n : Nd} (h4 : 4 ≤ n.op) (h8 : n.op ≤ 8) {r : Option (AV × AHeap)} (hr : R Zx [.ptr w 0, .agg n.cs, .int .i64 (tagsF n.op)] H = r) :
    ∃ id H', r = some (.int .i64 id, H') ∧ ∃ F' ns', WG H' w dn g most ns' F' e ∧ Fr (w :: F) H H' ∧ ∀ p, p ∈ F' → p ∈ F ∨ H.size ≤ p := by
  rw [Zdf] at hr
  have k1 : Keeps H (H.new (.cells n.cs)) := (Keeps.refl H).new' _
  have z8 := (tb8 (op := n.op) (by omega) (by omega)).2 (by omega)
  have z64 := (tb64 (op := n.op) (by omega) (by omega)).2 (by omega)
  have z48 := (tb48 (op := n.op) (by omega) (by omega)).2 (by omega)
  have z256 := (tb256 (op := n.op) (by omega) (by omega)).2 (by omega)
  have z16 := (tb16 (op := n.op) (by omega) (by omega)).2 (by omega)
  have n20 : ¬ n.op = 20 := by omega
  have mk := fun (r : Option (AV × AHeap)) => make_err (h.keeps k1) he (n := n) (r := r)
  simp only [Nd.parts'] at hr mk k1
  simp (maxDischargeDepth := 40) [Zk, z8, z64, z48, z256, z16, n20] at hr
  generalize hA : R Zf _ _ = q at hr
  obtain ⟨H2, F2, ns2, id, rfl, g2, k2, n2⟩ := mk _ hA
  simp at hr
  have k3 : Fr (w :: F) H H2 := (k1.fr _).trans k2 fun p hp => .inl hp
  obtain ⟨D, hD, g4, k4⟩ := h.back g2 k3 id
  rw [hD] at hr
  refine ⟨id, D, hr.symm, F2, ns2, g4, k4, fun p hp => ?_⟩
  have := k1.size
  rcases n2 p hp with h | h
  · exact .inl h
  · exact .inr (by omega)
theorem beside_run {f : Nat} (h : WG H w dn g most ns F 0) {n : Nd} (o0 : 0 ≤ n.op) (o44 : n.op ≤ 44)
    (hd : n.op = 20 → besideF ns n = doubleF ns n → ∀ H1, Keeps H H1 → ∀ r, R Z1 [.ptr w 0, .agg n.cs] H1 = r → ∃ id H2, r = some (.int .i64 id, H2) ∧ Wv H w dn g most F (exF most f ns n (doubleF ns n)) (some (back [] H (.int .i64 id) H2)))
    {r : Option (AV × AHeap)} (hr : R Zx [.ptr w 0, .agg n.cs, .int .i64 (tagsF n.op)] H = r) : Wv H w dn g most F (exF most f ns n (besideF ns n)) r := by
  rw [Zdf] at hr
  have hself := h.self
  have hlo := h.lo
  have k1 : Keeps H (H.new (.cells n.cs)) := (Keeps.refl H).new' _
  have t8 := tb8 o0 o44
  have t64 := tb64 o0 o44
  have t48 := tb48 o0 o44
  have t256 := tb256 o0 o44
  have t16 := tb16 o0 o44
  have ia := fun c => is_run (h.keeps k1) (id := n.a) (c := c)
  have ib := fun c => is_run (h.keeps k1) (id := n.b) (c := c)
  have hnode := (h.keeps k1).node n.a
  have mk := fun (H1 : AHeap) (k : Keeps H H1) (r : Option (AV × AHeap)) (hr : R Zf [.ptr w 0, .agg n.cs] H1 = r) => mk_up (f := f) h k hr
  have co := fun (H1 : AHeap) (k : Keeps H H1) (r : Option (AV × AHeap)) (hr : R Zg [.ptr w 0, .agg [.int .i64 (ndF ns n.a).sort, u (lo (0#128 : W128)), u (hi (0#128 : W128))]] H1 = r) => con_up (f := f) (n := n) (v := ⟨(ndF ns n.a).sort, 0#128⟩) h k hr
  simp only [show lo (0#128 : W128) = 0#64 from rfl, show hi (0#128 : W128) = 0#64 from rfl] at co
  obtain ⟨k, hk⟩ : ∃ k, k = ndF ns n.a := ⟨_, rfl⟩
  simp only [Nd.parts'] at hr mk k1 hnode hd ia ib
  rw [← hk] at hnode co
  by_cases grp : n.op = 12
  · have z8 : ¬ tbit n.op 8 = 0 := fun hh => t8.1 hh (by omega)
    have z64 : tbit n.op 64 = 0 := t64.2 (by omega)
    have z48 : tbit n.op 48 = 0 := t48.2 (by omega)
    have z256 : tbit n.op 256 = 0 := t256.2 (by omega)
    have z16 : tbit n.op 16 = 0 := t16.2 (by omega)
    have n20 : ¬ n.op = 20 := by omega
    cases a0 : isF ns n.a 0#64 with
    | true =>
      have hB : besideF ns n = .con ⟨k.sort, 0#128⟩ := by
        simp [besideF, grp, ← hk, a0]
      rw [hB]
      simp (maxDischargeDepth := 40) [Zk, hself, hlo, z8, ia 0#64, a0, hnode] at hr
      generalize hA : R Zg _ _ = q at hr
      obtain ⟨id, H2, rfl, hW⟩ := co _ (by ((repeat (first | exact Keeps.refl _ | assumption | refine Keeps.new' ?_ _ | refine Keeps.set ?_ ?_ _)) <;> (first | assumption | (simp; done) | (simp; omega)))) _ hA
      simp at hr
      rw [← hr]
      simpa only [hk] using hW
    | false =>
      cases b0 : isF ns n.b 0#64 with
      | true =>
        have hB : besideF ns n = .con ⟨k.sort, 0#128⟩ := by
          simp [besideF, grp, ← hk, a0, b0]
        rw [hB]
        simp (maxDischargeDepth := 40) [Zk, hself, hlo, z8, ia 0#64, ib 0#64, a0, b0, hnode] at hr
        generalize hA : R Zg _ _ = q at hr
        obtain ⟨id, H2, rfl, hW⟩ := co _ (by ((repeat (first | exact Keeps.refl _ | assumption | refine Keeps.new' ?_ _ | refine Keeps.set ?_ ?_ _)) <;> (first | assumption | (simp; done) | (simp; omega)))) _ hA
        simp at hr
        rw [← hr]
        simpa only [hk] using hW
      | false =>
        have hB : besideF ns n = .mk := by
          simp [besideF, grp, a0, b0]
        rw [hB]
        simp (maxDischargeDepth := 40) [Zk, z8, z64, z48, z256, z16, n20, ia 0#64, ib 0#64, a0, b0] at hr
        generalize hA : R Zf _ _ = q at hr
        obtain ⟨id, H2, rfl, hW⟩ := mk _ (by ((repeat (first | exact Keeps.refl _ | assumption | refine Keeps.new' ?_ _ | refine Keeps.set ?_ ?_ _)) <;> (first | assumption | (simp; done) | (simp; omega)))) _ hA
        simp at hr
        rw [← hr]
        exact hW
  have g12 := grp
  clear grp
  by_cases grp : n.op = 20
  · have z8 : ¬ tbit n.op 8 = 0 := fun hh => t8.1 hh (by omega)
    have z64 : tbit n.op 64 = 0 := t64.2 (by omega)
    have z48 : tbit n.op 48 = 0 := t48.2 (by omega)
    have z256 : ¬ tbit n.op 256 = 0 := fun hh => t256.1 hh (by omega)
    have z16 : tbit n.op 16 = 0 := t16.2 (by omega)
    have e20 := eq_true grp
    cases a0 : isF ns n.a 0#64 with
    | true =>
      have hB : besideF ns n = .con ⟨k.sort, 0#128⟩ := by
        simp [besideF, grp, ← hk, a0]
      rw [hB]
      simp (maxDischargeDepth := 40) [Zk, hself, hlo, z8, ia 0#64, a0, hnode] at hr
      generalize hA : R Zg _ _ = q at hr
      obtain ⟨id, H2, rfl, hW⟩ := co _ (by ((repeat (first | exact Keeps.refl _ | assumption | refine Keeps.new' ?_ _ | refine Keeps.set ?_ ?_ _)) <;> (first | assumption | (simp; done) | (simp; omega)))) _ hA
      simp at hr
      rw [← hr]
      simpa only [hk] using hW
    | false =>
      cases b0 : isF ns n.b 0#64 with
      | true =>
        have hB : besideF ns n = .con ⟨k.sort, 0#128⟩ := by
          simp [besideF, grp, ← hk, a0, b0]
        rw [hB]
        simp (maxDischargeDepth := 40) [Zk, hself, hlo, z8, ia 0#64, ib 0#64, a0, b0, hnode] at hr
        generalize hA : R Zg _ _ = q at hr
        obtain ⟨id, H2, rfl, hW⟩ := co _ (by ((repeat (first | exact Keeps.refl _ | assumption | refine Keeps.new' ?_ _ | refine Keeps.set ?_ ?_ _)) <;> (first | assumption | (simp; done) | (simp; omega)))) _ hA
        simp at hr
        rw [← hr]
        simpa only [hk] using hW
      | false =>
        cases b1 : isF ns n.b 1#64 with
        | true =>
          have hB : besideF ns n = .at n.a := by
            simp [besideF, grp, a0, b0, b1]
          rw [hB]
          simp (maxDischargeDepth := 40) [Zk, z8, z64, z48, z256, ia 0#64, ib 0#64, ib 1#64, a0, b0, b1] at hr
          rw [← hr]
          exact Wv.stay h _
        | false =>
          cases a1 : isF ns n.a 1#64 with
          | true =>
            have hB : besideF ns n = .at n.b := by
              simp [besideF, grp, a0, b0, b1, a1]
            rw [hB]
            simp (maxDischargeDepth := 40) [Zk, z8, z64, z48, z256, z16, e20, ia 0#64, ib 0#64, ib 1#64, ia 1#64, a0, b0, b1, a1] at hr
            rw [← hr]
            exact Wv.stay h _
          | false =>
            have hB : besideF ns n = doubleF ns n := by
              simp [besideF, grp, a0, b0, b1, a1]
            have hd := hd grp hB
            rw [hB]
            simp (maxDischargeDepth := 40) [Zk, z8, z64, z48, z256, z16, e20, ia 0#64, ib 0#64, ib 1#64, ia 1#64, a0, b0, b1, a1] at hr
            generalize hA : R Z1 _ _ = q at hr
            obtain ⟨id, H2, rfl, hW⟩ := hd _ (by ((repeat (first | exact Keeps.refl _ | assumption | refine Keeps.new' ?_ _ | refine Keeps.set ?_ ?_ _)) <;> (first | assumption | (simp; done) | (simp; omega)))) _ hA
            simp at hr
            rw [← hr]
            exact hW
  have g20 := grp
  clear grp
  by_cases grp : n.op = 26 ∨ n.op = 27 ∨ n.op = 28
  · have z8 : tbit n.op 8 = 0 := t8.2 (by omega)
    have z64 : ¬ tbit n.op 64 = 0 := fun hh => t64.1 hh (by omega)
    have z48 : ¬ tbit n.op 48 = 0 := fun hh => t48.1 hh (by omega)
    have z256 : tbit n.op 256 = 0 := t256.2 (by omega)
    have z16 : tbit n.op 16 = 0 := t16.2 (by omega)
    have n20 : ¬ n.op = 20 := by omega
    cases a0 : isF ns n.a 0#64 with
    | true =>
      have hB : besideF ns n = .con ⟨k.sort, 0#128⟩ := by
        rcases grp with h | h | h <;> simp [besideF, h, ← hk, a0]
      rw [hB]
      simp (maxDischargeDepth := 40) [Zk, hself, hlo, z8, z64, ia 0#64, a0, hnode] at hr
      generalize hA : R Zg _ _ = q at hr
      obtain ⟨id, H2, rfl, hW⟩ := co _ (by ((repeat (first | exact Keeps.refl _ | assumption | refine Keeps.new' ?_ _ | refine Keeps.set ?_ ?_ _)) <;> (first | assumption | (simp; done) | (simp; omega)))) _ hA
      simp at hr
      rw [← hr]
      simpa only [hk] using hW
    | false =>
      cases b0 : isF ns n.b 0#64 with
      | true =>
        have hB : besideF ns n = .at n.a := by
          rcases grp with h | h | h <;> simp [besideF, h, a0, b0]
        rw [hB]
        simp (maxDischargeDepth := 40) [Zk, z8, z64, z48, ia 0#64, ib 0#64, a0, b0] at hr
        rw [← hr]
        exact Wv.stay h _
      | false =>
        have hB : besideF ns n = .mk := by
          rcases grp with h | h | h <;> simp [besideF, h, a0, b0]
        rw [hB]
        simp (maxDischargeDepth := 40) [Zk, z8, z64, z48, z256, z16, n20, ia 0#64, ib 0#64, a0, b0] at hr
        generalize hA : R Zf _ _ = q at hr
        obtain ⟨id, H2, rfl, hW⟩ := mk _ (by ((repeat (first | exact Keeps.refl _ | assumption | refine Keeps.new' ?_ _ | refine Keeps.set ?_ ?_ _)) <;> (first | assumption | (simp; done) | (simp; omega)))) _ hA
        simp at hr
        rw [← hr]
        exact hW
  have g26 := grp
  clear grp
  by_cases grp : n.op = 13 ∨ n.op = 14 ∨ n.op = 18
  · have z8 : tbit n.op 8 = 0 := t8.2 (by omega)
    have z64 : tbit n.op 64 = 0 := t64.2 (by omega)
    have z48 : ¬ tbit n.op 48 = 0 := fun hh => t48.1 hh (by omega)
    have z256 : tbit n.op 256 = 0 := t256.2 (by omega)
    have z16 : ¬ tbit n.op 16 = 0 := fun hh => t16.1 hh (by omega)
    have n20 : ¬ n.op = 20 := by omega
    cases b0 : isF ns n.b 0#64 with
    | true =>
      have hB : besideF ns n = .at n.a := by
        rcases grp with h | h | h <;> simp [besideF, h, b0]
      rw [hB]
      simp (maxDischargeDepth := 40) [Zk, z8, z64, z48, ib 0#64, b0] at hr
      rw [← hr]
      exact Wv.stay h _
    | false =>
      cases a0 : isF ns n.a 0#64 with
      | true =>
        have hB : besideF ns n = .at n.b := by
          rcases grp with h | h | h <;> simp [besideF, h, b0, a0]
        rw [hB]
        simp (maxDischargeDepth := 40) [Zk, z8, z64, z48, z256, z16, ib 0#64, ia 0#64, b0, a0] at hr
        rw [← hr]
        exact Wv.stay h _
      | false =>
        have hB : besideF ns n = .mk := by
          rcases grp with h | h | h <;> simp [besideF, h, b0, a0]
        rw [hB]
        simp (maxDischargeDepth := 40) [Zk, z8, z64, z48, z256, z16, n20, ib 0#64, ia 0#64, b0, a0] at hr
        generalize hA : R Zf _ _ = q at hr
        obtain ⟨id, H2, rfl, hW⟩ := mk _ (by ((repeat (first | exact Keeps.refl _ | assumption | refine Keeps.new' ?_ _ | refine Keeps.set ?_ ?_ _)) <;> (first | assumption | (simp; done) | (simp; omega)))) _ hA
        simp at hr
        rw [← hr]
        exact hW
  have g13 := grp
  clear grp
  by_cases grp : n.op = 19
  · have z8 : tbit n.op 8 = 0 := t8.2 (by omega)
    have z64 : tbit n.op 64 = 0 := t64.2 (by omega)
    have z48 : ¬ tbit n.op 48 = 0 := fun hh => t48.1 hh (by omega)
    have z256 : tbit n.op 256 = 0 := t256.2 (by omega)
    have z16 : tbit n.op 16 = 0 := t16.2 (by omega)
    have n20 : ¬ n.op = 20 := by omega
    cases b0 : isF ns n.b 0#64 with
    | true =>
      have hB : besideF ns n = .at n.a := by
        simp [besideF, grp, b0]
      rw [hB]
      simp (maxDischargeDepth := 40) [Zk, z8, z64, z48, ib 0#64, b0] at hr
      rw [← hr]
      exact Wv.stay h _
    | false =>
      have hB : besideF ns n = .mk := by
        simp [besideF, grp, b0]
      rw [hB]
      simp (maxDischargeDepth := 40) [Zk, z8, z64, z48, z256, z16, n20, ib 0#64, b0] at hr
      generalize hA : R Zf _ _ = q at hr
      obtain ⟨id, H2, rfl, hW⟩ := mk _ (by ((repeat (first | exact Keeps.refl _ | assumption | refine Keeps.new' ?_ _ | refine Keeps.set ?_ ?_ _)) <;> (first | assumption | (simp; done) | (simp; omega)))) _ hA
      simp at hr
      rw [← hr]
      exact hW
  have g19 := grp
  clear grp
  by_cases grp : n.op = 21
  · have z8 : tbit n.op 8 = 0 := t8.2 (by omega)
    have z64 : tbit n.op 64 = 0 := t64.2 (by omega)
    have z48 : tbit n.op 48 = 0 := t48.2 (by omega)
    have z256 : ¬ tbit n.op 256 = 0 := fun hh => t256.1 hh (by omega)
    have z16 : tbit n.op 16 = 0 := t16.2 (by omega)
    have n20 : ¬ n.op = 20 := by omega
    cases b1 : isF ns n.b 1#64 with
    | true =>
      have hB : besideF ns n = .at n.a := by
        simp [besideF, grp, b1]
      rw [hB]
      simp (maxDischargeDepth := 40) [Zk, z8, z64, z48, z256, ib 1#64, b1] at hr
      rw [← hr]
      exact Wv.stay h _
    | false =>
      have hB : besideF ns n = .mk := by
        simp [besideF, grp, b1]
      rw [hB]
      simp (maxDischargeDepth := 40) [Zk, z8, z64, z48, z256, z16, n20, ib 1#64, b1] at hr
      generalize hA : R Zf _ _ = q at hr
      obtain ⟨id, H2, rfl, hW⟩ := mk _ (by ((repeat (first | exact Keeps.refl _ | assumption | refine Keeps.new' ?_ _ | refine Keeps.set ?_ ?_ _)) <;> (first | assumption | (simp; done) | (simp; omega)))) _ hA
      simp at hr
      rw [← hr]
      exact hW
  have g21 := grp
  clear grp
  have z8 : tbit n.op 8 = 0 := t8.2 (by omega)
  have z64 : tbit n.op 64 = 0 := t64.2 (by omega)
  have z48 : tbit n.op 48 = 0 := t48.2 (by omega)
  have z256 : tbit n.op 256 = 0 := t256.2 (by omega)
  have z16 : tbit n.op 16 = 0 := t16.2 (by omega)
  have n20 : ¬ n.op = 20 := by omega
  have hB : besideF ns n = .mk := by
    unfold besideF
    rw [if_neg (by omega), if_neg (by omega), if_neg (by omega), if_neg (by omega)]
  rw [hB]
  simp (maxDischargeDepth := 40) [Zk, z8, z64, z48, z256, z16, n20] at hr
  generalize hA : R Zf _ _ = q at hr
  obtain ⟨id, H2, rfl, hW⟩ := mk _ (by ((repeat (first | exact Keeps.refl _ | assumption | refine Keeps.new' ?_ _ | refine Keeps.set ?_ ?_ _)) <;> (first | assumption | (simp; done) | (simp; omega)))) _ hA
  simp at hr
  rw [← hr]
  exact hW
end
end Go.Proofs.Ytiobohfiaapgeaa
end
section
namespace Go.Proofs.Ytiobohfiaapgeaa
set_option maxRecDepth 100000
set_option maxHeartbeats 4000000
section
variable {H : AHeap} {w dn g : Nat} {most : Int} {ns : List Nd} {F : List Nat} {e : Int}
theorem mul_words {ns : List Nd} {look : ByteArray → Option Vl} (gk : Gok ns) (hA : AllFit look ns) {n : Nd} (hf : formedF ns.length n = true) (hs : (sortedF ns n).2 = 0) (h20 : n.op = 20) : ∃ N : Nat, 1 ≤ N ∧ N ≤ 128 ∧ ∃ x y : BitVec N, V look ns n.a = Vl.of x ∧ V look ns n.b = Vl.of y := by
  have F := node_fit gk hA hf hs (by omega) (by omega)
  rw [kidsV_2 (by rw [h20]; decide)] at F
  obtain ⟨l, hl⟩ : ∃ l, l = [V look ns n.a, V look ns n.b] := ⟨_, rfl⟩
  obtain ⟨s, hs⟩ : ∃ s, s = (sortedF ns n).1.sort := ⟨_, rfl⟩
  rw [← hl, ← hs] at F
  cases F with
  | word N x y r1 r2 =>
    injection hl with e1 e2
    injection e2 with e2
    exact ⟨N, r1, r2, x, y, e1.symm, e2.symm⟩
  | _ => omega
theorem logic_ops {ns : List Nd} {n : Nd} {c : Ch} (h : logicF ns n = some c) : 4 ≤ n.op ∧ n.op ≤ 8 := by
  unfold logicF at h
  split at h
  · cases h
  · omega
theorem wtwo_run {f : Nat} (hC : NormC f) (h : WG H w dn g most ns F 0) (gk : Gok ns) {n : Nd} (hf : formedF ns.length n = true) (hs : (sortedF ns n).2 = 0) (har : arity n.op = 2) (hne : (exF most f ns n (binC ns n)).2.2 ≠ -1) {r : Option (AV × AHeap)}
    (hr : R Zbo [.ptr w 0, .agg n.cs] H = r) : Wv H w dn g most F (exF most f ns n (binC ns n)) r := by
  rw [Zfe] at hr
  have hself := h.self
  have hlo := h.lo
  have k1 : Keeps H (H.new (.cells n.cs)) := (Keeps.refl H).new' _
  have h1 : ¬ n.op = 1 := fun hh => by rw [hh] at har; revert har; decide
  have h2 : ¬ n.op = 2 := fun hh => by rw [hh] at har; revert har; decide
  obtain ⟨look, hA⟩ := look_any gk
  have PB := bin_val gk hA hf hs h1 h2 har
  have pth : pathF ns n = binC ns n := by unfold pathF; rw [if_neg (by omega), if_neg (by omega), if_neg (by omega)]
  have pos : (exF most f ns n (binC ns n)).2.2 = 0 → 0 < (exF most f ns n (binC ns n)).2.1 := fun h0 => by
    rw [← pth, ← normF_ex] at hne h0 ⊢
    have := ((norm_val (f + 1) gk hf hs h1 h2 hne).1 h0).lo
    omega
  cases hfo : foldF ns n with
  | some v =>
    rw [show binC ns n = .con v by unfold binC; rw [hfo]]
    have hX := fun (r' : Option (AV × AHeap)) => fold_up (f := f) h (by omega) hfo k1 (r := r')
    simp only [Nd.parts'] at hr hX
    simp (maxDischargeDepth := 40) [Zbf] at hr
    generalize hA : R Zw _ _ = q at hr
    obtain ⟨id, H2, e, rfl, o2, l2, hid, hW⟩ := hX _ hA
    by_cases c : 0 < id
    · simp (maxDischargeDepth := 40) [c] at hr
      rw [← hr]; exact hW
    · have := hid c
      simp (maxDischargeDepth := 40) [c, o2, this] at hr
      rw [← hr]; exact hW
  | none =>
    have hX := fold_no h (by omega) hfo k1
    have ob := arity_bound (op := n.op) (by omega)
    have t1 := tb1 (op := n.op) (by omega) (by omega)
    have t2 := tb2 (op := n.op) (by omega) (by omega)
    have t4 := tb4 (op := n.op) (by omega) (by omega)
    have hz := zero_run (h.keeps k1) (n := n)
    have hb := fun H => bool_run (b := true) (H := H)
    have co := fun (v : Vl) (H1 : AHeap) (k : Keeps H H1) (r : Option (AV × AHeap)) (hr : R Zg [.ptr w 0, .agg [.int .i64 v.w, u (lo v.n), u (hi v.n)]] H1 = r) => con_up (f := f) (n := n) h k hr
    have hlg := fun (P : ∀ c, logicF ns n = some c → PV look ns n c ∧ (exF most f ns n c).2.2 ≠ -1) (r : Option (AV × AHeap)) => wlogic_run hC (h.keeps k1) gk P (r := r)
    have hbd := fun (hd) (r : Option (AV × AHeap)) => beside_run (f := f) (h.keeps k1) (n := n) (by omega) (by omega) hd (r := r)
    have hbe := fun (H2 : AHeap) (ns2 : List Nd) (F2 : List Nat) (e2 : Int) (g2 : WG H2 w dn g most ns2 F2 e2) (he : ¬ e2 = 0) (h4 : 4 ≤ n.op) (h8 : n.op ≤ 8) (r : Option (AV × AHeap)) => beside_err g2 he (n := n) h4 h8 (r := r)
    have hdb : n.op = 20 → binC ns n = doubleF ns n → ∀ H1, Keeps (H.new (.cells n.cs)) H1 → ∀ r, R Z1 [.ptr w 0, .agg n.cs] H1 = r → ∃ id H2, r = some (.int .i64 id, H2) ∧ Wv (H.new (.cells n.cs)) w dn g most F (exF most f ns n (doubleF ns n)) (some (back [] (H.new (.cells n.cs)) (.int .i64 id) H2)) := fun h20 hB H1 k r hr => by
      obtain ⟨N, N1, N2, x, y, ha, hb⟩ := mul_words gk hA hf hs h20
      rw [hB] at PB hne
      exact Wv.up (h.keeps k1) k (doubled_run hC ((h.keeps k1).keeps k) gk N1 N2 hA ha hb PB hne hr)
    simp only [Nd.parts'] at hr hX k1 hz hlg hbd hbe hdb
    have hbin0 : binC ns n = (if n.a = n.b ∧ (n.op = 4 ∨ n.op = 5 ∨ n.op = 12 ∨ n.op = 13) then .at n.a
    else if n.a = n.b ∧ (n.op = 6 ∨ n.op = 29 ∨ n.op = 31 ∨ n.op = 33 ∨ n.op = 35 ∨ n.op = 14 ∨ n.op = 19) then .con (if n.op = 14 ∨ n.op = 19 then ⟨(ndF ns n.a).sort, 0#128⟩ else Vl.bool false)
    else if n.a = n.b ∧ (n.op = 8 ∨ n.op = 30 ∨ n.op = 32 ∨ n.op = 34 ∨ n.op = 36 ∨ n.op = 7) then .con (Vl.bool true)
    else match logicF ns n with
      | some c => c
      | none => besideF ns n) := by
      unfold binC
      rw [hfo]
      rfl
    by_cases cab : n.a = n.b
    · have eab := eq_true cab
      by_cases c1 : n.op = 4 ∨ n.op = 5 ∨ n.op = 12 ∨ n.op = 13
      · have z1 : ¬ tbit n.op 1 = 0 := fun hh => t1.1 hh c1
        rw [hbin0, if_pos ⟨cab, c1⟩]
        simp (maxDischargeDepth := 40) [Zbf, hself, hlo, hX, tags_run, eab, z1] at hr
        rw [← hr]
        exact Wv.stay h _
      have z1 := t1.2 c1
      rw [if_neg (fun hh => c1 hh.2)] at hbin0
      by_cases c2 : n.op = 6 ∨ n.op = 29 ∨ n.op = 31 ∨ n.op = 33 ∨ n.op = 35 ∨ n.op = 14 ∨ n.op = 19
      · have z2 : ¬ tbit n.op 2 = 0 := fun hh => t2.1 hh c2
        rw [hbin0, if_pos ⟨cab, c2⟩]
        obtain ⟨zv, hzv⟩ : ∃ zv, zv = (if n.op = 14 ∨ n.op = 19 then (⟨(ndF ns n.a).sort, 0#128⟩ : Vl) else Vl.bool false) := ⟨_, rfl⟩
        have hz2 : AV.agg [.int .i64 (if n.op = 14 ∨ n.op = 19 then (ndF ns n.a).sort else 0), u 0#64, u 0#64] = .agg [.int .i64 zv.w, u (lo zv.n), u (hi zv.n)] := by
          rw [hzv]
          by_cases c : n.op = 14 ∨ n.op = 19
          · rw [if_pos c, if_pos c]
            simp only [show lo (0#128 : W128) = 0#64 from rfl, show hi (0#128 : W128) = 0#64 from rfl]
          · rw [if_neg c, if_neg c]
            simp only [Vl.bool, Bool.false_eq_true, if_false, show lo (0#128 : W128) = 0#64 from rfl, show hi (0#128 : W128) = 0#64 from rfl]
        rw [hz2] at hz
        rw [← hzv]
        simp (maxDischargeDepth := 40) [Zbf, hself, hlo, hX, tags_run, eab, z1, z2, hz] at hr
        generalize hA : R Zg _ _ = q at hr
        obtain ⟨id, H2, rfl, hW⟩ := co zv _ k1 _ hA
        simp at hr
        rw [← hr]
        exact hW
      have z2 := t2.2 c2
      rw [if_neg (fun hh => c2 hh.2)] at hbin0
      by_cases c4 : n.op = 8 ∨ n.op = 30 ∨ n.op = 32 ∨ n.op = 34 ∨ n.op = 36 ∨ n.op = 7
      · have z4 : ¬ tbit n.op 4 = 0 := fun hh => t4.1 hh c4
        rw [hbin0, if_pos ⟨cab, c4⟩]
        simp (maxDischargeDepth := 40) [Zbf, hself, hlo, hX, tags_run, eab, z1, z2, z4, hb] at hr
        generalize hA : R Zg _ _ = q at hr
        obtain ⟨id, H2, rfl, hW⟩ := co (Vl.bool true) _ k1 _ hA
        simp at hr
        rw [← hr]
        exact hW
      have z4 := t4.2 c4
      rw [if_neg (fun hh => c4 hh.2)] at hbin0
      have hbin := hbin0
      simp (maxDischargeDepth := 40) [Zbf, hself, hlo, hX, tags_run, eab, z1, z2, z4] at hr
      generalize hL : R Zbj _ _ = q at hr
      have hW := hlg (fun c hc => by rw [hbin, hc] at PB hne; exact ⟨PB, hne⟩) _ hL
      cases hlc : logicF ns n with
      | none =>
        rw [hlc] at hW hbin
        simp only at hW hbin
        subst hW
        simp (maxDischargeDepth := 40) at hr
        generalize hB : R Zx _ _ = q at hr
        have hW := hbd (fun h20 hB => hdb h20 (hbin.trans hB)) _ hB
        obtain ⟨id, H2, rfl, hW2⟩ := Wv.up h k1 hW
        simp at hr
        rw [hbin, ← hr]
        exact hW2
      | some c =>
        obtain ⟨l4, l8⟩ := logic_ops hlc
        rw [hlc] at hW hbin
        simp only at hW hbin
        rw [← hbin] at hW
        obtain ⟨id', H2', e1, hW2⟩ := Wv.up h k1 hW
        obtain ⟨H2, F2, ns2, id, e2, rfl, g2, k2, n2, ok, bad⟩ := hW
        cases e1
        by_cases c0 : 0 < id'
        · simp (maxDischargeDepth := 40) [c0] at hr
          rw [← hr]
          exact hW2
        · have he : ¬ (exF most f ns n (binC ns n)).2.2 = 0 := fun h0 => c0 (by rw [(ok h0).2.1]; exact pos h0)
          have hb := bad he
          have hnF : H.size ∉ w :: F := fun hp => by
            rcases List.mem_cons.1 hp with hp | hp
            · omega
            · have := h.G.ltF hp; omega
          have hob : H2'.obj H.size = .cells [.int .i64 n.op, .int .i64 n.sort, .int .i64 n.a, .int .i64 n.b, .int .i64 n.c, .int .i64 n.p, .int .i64 n.q, .int .i64 n.vw, u n.vl, u n.vh, .str n.name] := by rw [k2.obj _ (by simp) hnF]; simp
          have hl1 : H.size < H2'.size := by have := k2.size; simp at this; omega
          simp (maxDischargeDepth := 40) [c0, hob] at hr
          generalize hB : R Zx _ _ = q at hr
          obtain ⟨id3, H3, rfl, F3, ns3, g3, k3, n3⟩ := hbe H2' ns2 F2 e2 g2 (by rw [hb]; exact he) l4 l8 _ hB
          simp at hr
          have s1 := k1.size
          have s2 := k2.size
          have nn : ∀ p, p ∈ F2 → p ∈ F ∨ H.size ≤ p := fun p hp => by
            rcases n2 p hp with h | h
            · exact .inl h
            · exact .inr (by omega)
          have k13 : Fr (w :: F) H H3 := ((k1.fr _).trans k2 fun p hp => .inl hp).trans k3 fun p hp => by
            rcases List.mem_cons.1 hp with rfl | hp
            · exact .inl (by simp)
            · rcases nn p hp with h | h
              · exact .inl (by simp [h])
              · exact .inr h
          obtain ⟨D, hD, g4, k4⟩ := h.back g3 k13 id3
          rw [hD] at hr
          refine ⟨D, F3, ns3, id3, e2, hr.symm, g4, k4, fun p hp => ?_, fun h0 => absurd h0 he, fun _ => hb⟩
          rcases n3 p hp with h | h
          · exact nn p h
          · exact .inr (by omega)
    · rw [if_neg (fun hh => cab hh.1), if_neg (fun hh => cab hh.1), if_neg (fun hh => cab hh.1)] at hbin0
      have hbin := hbin0
      simp (maxDischargeDepth := 40) [Zbf, hself, hlo, hX, tags_run, cab] at hr
      generalize hL : R Zbj _ _ = q at hr
      have hW := hlg (fun c hc => by rw [hbin, hc] at PB hne; exact ⟨PB, hne⟩) _ hL
      cases hlc : logicF ns n with
      | none =>
        rw [hlc] at hW hbin
        simp only at hW hbin
        subst hW
        simp (maxDischargeDepth := 40) at hr
        generalize hB : R Zx _ _ = q at hr
        have hW := hbd (fun h20 hB => hdb h20 (hbin.trans hB)) _ hB
        obtain ⟨id, H2, rfl, hW2⟩ := Wv.up h k1 hW
        simp at hr
        rw [hbin, ← hr]
        exact hW2
      | some c =>
        obtain ⟨l4, l8⟩ := logic_ops hlc
        rw [hlc] at hW hbin
        simp only at hW hbin
        rw [← hbin] at hW
        obtain ⟨id', H2', e1, hW2⟩ := Wv.up h k1 hW
        obtain ⟨H2, F2, ns2, id, e2, rfl, g2, k2, n2, ok, bad⟩ := hW
        cases e1
        by_cases c0 : 0 < id'
        · simp (maxDischargeDepth := 40) [c0] at hr
          rw [← hr]
          exact hW2
        · have he : ¬ (exF most f ns n (binC ns n)).2.2 = 0 := fun h0 => c0 (by rw [(ok h0).2.1]; exact pos h0)
          have hb := bad he
          have hnF : H.size ∉ w :: F := fun hp => by
            rcases List.mem_cons.1 hp with hp | hp
            · omega
            · have := h.G.ltF hp; omega
          have hob : H2'.obj H.size = .cells [.int .i64 n.op, .int .i64 n.sort, .int .i64 n.a, .int .i64 n.b, .int .i64 n.c, .int .i64 n.p, .int .i64 n.q, .int .i64 n.vw, u n.vl, u n.vh, .str n.name] := by rw [k2.obj _ (by simp) hnF]; simp
          have hl1 : H.size < H2'.size := by have := k2.size; simp at this; omega
          simp (maxDischargeDepth := 40) [c0, hob] at hr
          generalize hB : R Zx _ _ = q at hr
          obtain ⟨id3, H3, rfl, F3, ns3, g3, k3, n3⟩ := hbe H2' ns2 F2 e2 g2 (by rw [hb]; exact he) l4 l8 _ hB
          simp at hr
          have s1 := k1.size
          have s2 := k2.size
          have nn : ∀ p, p ∈ F2 → p ∈ F ∨ H.size ≤ p := fun p hp => by
            rcases n2 p hp with h | h
            · exact .inl h
            · exact .inr (by omega)
          have k13 : Fr (w :: F) H H3 := ((k1.fr _).trans k2 fun p hp => .inl hp).trans k3 fun p hp => by
            rcases List.mem_cons.1 hp with rfl | hp
            · exact .inl (by simp)
            · rcases nn p hp with h | h
              · exact .inl (by simp [h])
              · exact .inr h
          obtain ⟨D, hD, g4, k4⟩ := h.back g3 k13 id3
          rw [hD] at hr
          refine ⟨D, F3, ns3, id3, e2, hr.symm, g4, k4, fun p hp => ?_, fun h0 => absurd h0 he, fun _ => hb⟩
          rcases n3 p hp with h | h
          · exact nn p h
          · exact .inr (by omega)
theorem norm_runs (f : Nat) : NormC f := by
  induction f with
  | zero =>
    unfold NormC
    intro H w dn g most ns F n r h gk hf hs hne hr
    exact absurd rfl hne
  | succ f hC =>
    unfold NormC
    intro H w dn g most ns F n r h gk hf hs hne hr
    rw [normF_ex] at hne ⊢
    rw [Zdu] at hr
    have hself := h.self
    have hlo := h.lo
    have k1 : Keeps H (H.new (.cells n.cs)) := (Keeps.refl H).new' _
    have har := fun H => arity_run (op := n.op) (H := H)
    have h0 := (formed_arity hf).2
    have h3 := arity_le n.op
    have a12 : n.op = 1 ∨ n.op = 2 → arity n.op = 0 := fun hh => by rcases hh with hh | hh <;> rw [hh] <;> decide
    unfold pathF at hne ⊢
    have mk := fun (r : Option (AV × AHeap)) (hr : R Zf [.ptr w 0, .agg n.cs] (H.new (.cells n.cs)) = r) => mk_up (f := f) h k1 hr
    have one := fun (ha : arity n.op = 1) (hne : (exF most f ns n (unC ns n)).2.2 ≠ -1) (r : Option (AV × AHeap)) (hr : R Zbe [.ptr w 0, .agg n.cs] (H.new (.cells n.cs)) = r) => Wv.up h k1 (wone_run hC (h.keeps k1) gk hf hs (fun hh => by have := a12 (.inl hh); omega) (fun hh => by have := a12 (.inr hh); omega) ha hne hr)
    have cho := fun (r : Option (AV × AHeap)) (hr : R Zbh [.ptr w 0, .agg n.cs] (H.new (.cells n.cs)) = r) => Wv.up h k1 (choice_run (f := f) (h.keeps k1) hr)
    have two := fun (ha : arity n.op = 2) (hne : (exF most f ns n (binC ns n)).2.2 ≠ -1) (r : Option (AV × AHeap)) (hr : R Zbo [.ptr w 0, .agg n.cs] (H.new (.cells n.cs)) = r) => Wv.up h k1 (wtwo_run hC (h.keeps k1) gk hf hs ha hne hr)
    simp only [Nd.parts'] at hr mk one cho two
    by_cases c0 : arity n.op = 0
    · have e0 := eq_true c0
      rw [if_pos c0]
      simp (maxDischargeDepth := 40) [Zbm, hself, hlo, har, e0] at hr
      generalize hA : R Zf _ _ = q at hr
      obtain ⟨id, H2, rfl, hW⟩ := mk _ hA
      simp at hr
      rw [← hr]
      exact hW
    rw [if_neg c0] at hne ⊢
    by_cases c1 : arity n.op = 1
    · have e1 := eq_true c1
      rw [if_pos c1] at hne ⊢
      simp (maxDischargeDepth := 40) [Zbm, hself, hlo, har, c0, e1] at hr
      generalize hA : R Zbe _ _ = q at hr
      obtain ⟨id, H2, rfl, hW⟩ := one c1 hne _ hA
      simp at hr
      rw [← hr]
      exact hW
    rw [if_neg c1] at hne ⊢
    by_cases c3 : arity n.op = 3
    · have e3 := eq_true c3
      rw [if_pos c3] at hne ⊢
      simp (maxDischargeDepth := 40) [Zbm, hself, hlo, har, c0, c1, e3] at hr
      generalize hA : R Zbh _ _ = q at hr
      obtain ⟨id, H2, rfl, hW⟩ := cho _ hA
      simp at hr
      rw [← hr]
      exact hW
    rw [if_neg c3] at hne ⊢
    simp (maxDischargeDepth := 40) [Zbm, hself, hlo, har, c0, c1, c3] at hr
    generalize hA : R Zbo _ _ = q at hr
    obtain ⟨id, H2, rfl, hW⟩ := two (by omega) hne _ hA
    simp at hr
    rw [← hr]
    exact hW
end
end Go.Proofs.Ytiobohfiaapgeaa
end
section
namespace Go.Proofs.Ytiobohfiaapgeaa
set_option maxRecDepth 100000
theorem findE_snoc (k : AV) : ∀ (es : List AEnt) (e : AEnt), findE k (es ++ [e]) = (findE k es).or (if keyEq k e.key = true then some e else none)
  | [], e => by simp [findE]
  | x :: es, e => by
    simp only [List.cons_append, findE]
    by_cases h : keyEq k x.key = true
    · simp [h]
    · rw [if_neg h, if_neg h]; exact findE_snoc k es e
theorem key_int {k j : Int} : keyEq (.int .i64 k) (.int .i64 j) = decide (k = j) := by
  simp only [keyEq, scEq]
  by_cases h : k = j <;> simp [h]
def IM (es : List AEnt) (f : Int → Option Int) : Prop := (∀ k, (findE (.int .i64 k) es).map (·.val) = (f k).map (.int .i64 ·)) ∧ ∀ x, x ∈ es → ∃ j, x.key = .int .i64 j
theorem IM.nil : IM [] fun _ => none := ⟨fun k => by simp [findE], fun x hx => by cases hx⟩
theorem IM.add {es : List AEnt} {f : Int → Option Int} (h : IM es f) {k v : Int} {c : Nat} (hk : f k = none) : IM (es ++ [⟨.int .i64 k, .int .i64 v, c⟩]) (fun x => if x = k then some v else f x) := by
  refine ⟨fun x => ?_, fun x hx => ?_⟩
  · rw [findE_snoc, key_int]
    have h1 := h.1 x
    by_cases e : x = k
    · subst e
      rw [hk] at h1
      cases hf : findE (.int .i64 x) es with
      | none => simp
      | some y => rw [hf] at h1; simp at h1
    · show _ = ((if x = k then some v else f x) : Option Int).map _
      rw [if_neg e]
      cases hf : findE (.int .i64 x) es with
      | none => rw [hf] at h1; simpa [e] using h1
      | some y => rw [hf] at h1; simpa using h1
  · rcases List.mem_append.1 hx with h1 | h1
    · exact h.2 x h1
    · simp at h1; exact ⟨k, by rw [h1]⟩
theorem IM.find {es : List AEnt} {f : Int → Option Int} (h : IM es f) (k : Int) : (f k = none ∧ findE (.int .i64 k) es = none) ∨ ∃ v x, f k = some v ∧ findE (.int .i64 k) es = some x ∧ x.val = .int .i64 v := by
  have h1 := h.1 k
  cases hf : findE (.int .i64 k) es <;> cases hl : f k <;> rw [hf, hl] at h1 <;> first | (cases h1; done) | skip
  · exact .inl ⟨rfl, rfl⟩
  · exact .inr ⟨_, _, rfl, rfl, by simpa using h1⟩
theorem findE_set {k v : Int} : ∀ {es : List AEnt}, (∀ x, x ∈ es → ∃ j, x.key = .int .i64 j) → findE (.int .i64 k) es ≠ none → ∀ j : Int, (findE (.int .i64 j) (setE (.int .i64 k) (.int .i64 v) es)).map (·.val) = if j = k then some (.int .i64 v) else (findE (.int .i64 j) es).map (·.val)
  | [], _, h, _ => by simp [findE] at h
  | e :: es, hk, h, j => by
    obtain ⟨i, hi⟩ := hk e (by simp)
    unfold setE
    by_cases c : k = i
    · subst c
      rw [if_pos (by rw [hi, key_int]; simp)]
      unfold findE
      by_cases d : j = k
      · simp [d, key_int]
      · simp [d, key_int, hi]
    · rw [if_neg (by rw [hi, key_int]; simpa using c)]
      unfold findE at h
      rw [if_neg (by rw [hi, key_int]; simpa using c)] at h
      have ih := findE_set (v := v) (fun x hx => hk x (by simp [hx])) h j
      unfold findE
      by_cases d : j = i
      · subst d
        simp [hi, key_int]
        intro e; exact absurd e.symm c
      · have hd : ¬ keyEq (.int .i64 j) e.key = true := by rw [hi, key_int]; simpa using d
        simp only [if_neg hd]
        exact ih
theorem IM.look {es : List AEnt} {f : Int → Option Int} (h : IM es f) (k : Int) : lookU false (.int .i64 0) (findE (.int .i64 k) es) = .int .i64 ((f k).getD 0) := by
  rcases h.find k with ⟨h1, h2⟩ | ⟨v, x, h1, h2, h3⟩
  · rw [h1, h2]; rfl
  · rw [h1, h2]; simp [h3]
theorem setE_keys {k v : AV} : ∀ {es : List AEnt}, (∃ j, k = .int .i64 j) → (∀ x, x ∈ es → ∃ j, x.key = .int .i64 j) → ∀ x, x ∈ setE k v es → ∃ j, x.key = .int .i64 j
  | [], _, _, _, h => by simp [setE] at h
  | e :: es, hk, he, x, h => by
    unfold setE at h
    split at h
    · rcases List.mem_cons.1 h with rfl | h1
      · exact hk
      · exact he x (by simp [h1])
    · rcases List.mem_cons.1 h with rfl | h1
      · exact he _ (by simp)
      · exact setE_keys hk (fun y hy => he y (by simp [hy])) x h1
theorem IM.upd {es : List AEnt} {f : Int → Option Int} (h : IM es f) (k v : Int) (H : AHeap) (o : Nat) (sh : KSh) (c : Nat) :
    ∃ es' c', (match findE (.int .i64 k) es with
      | some _ => some (H.set o (.map sh (setE (.int .i64 k) (.int .i64 v) es) c))
      | none => some (H.set o (.map sh (es ++ [⟨.int .i64 k, .int .i64 v, c⟩]) (c + 1)))) = some (H.set o (.map sh es' c')) ∧ IM es' (fun x => if x = k then some v else f x) := by
  rcases h.find k with ⟨h1, h2⟩ | ⟨w, x, h1, h2, h3⟩
  · rw [h2]
    exact ⟨_, _, rfl, h.add h1⟩
  · rw [h2]
    refine ⟨_, _, rfl, fun j => ?_, setE_keys ⟨k, rfl⟩ h.2⟩
    rw [findE_set h.2 (by rw [h2]; simp) j]
    show _ = ((if j = k then some v else f j) : Option Int).map _
    by_cases c : j = k
    · rw [if_pos c, if_pos c]; rfl
    · rw [if_neg c, if_neg c]; exact h.1 j
theorem IM.updM {es : List AEnt} {f : Int → Option Int} (h : IM es f) (k v : Int) (H : AHeap) (o : Nat) (c : Nat) (ho : H.obj o = .map (.one (.i .i64)) es c) :
    ∃ es' c', updM (.int .i64 k) (.int .i64 v) (.map o) H (some (.one (.i .i64))) = some (H.set o (.map (.one (.i .i64)) es' c')) ∧ IM es' (fun x => if x = k then some v else f x) := by
  obtain ⟨es', c', h1, h2⟩ := h.upd k v H o (.one (.i .i64)) c
  refine ⟨es', c', ?_, h2⟩
  rw [← h1, updM_map]
  simp only [fits_one, fits_int, decide_true, if_true, ho]
  cases findE (.int .i64 k) es <;> rfl
end Go.Proofs.Ytiobohfiaapgeaa
end
section
namespace Go.Proofs.Ytiobohfiaapgeaa
set_option maxRecDepth 100000
set_option maxHeartbeats 4000000
theorem sim_step {most L : Int} {f : Nat} {ns0 : List Nd} {id : Int} (g0 : Gok ns0) (h1 : 1 ≤ id) (h2 : id ≤ ns0.length) (hL : most ≤ L) (hf : L + 2 ≤ f) {pre l : List Int} {j : Int} {ns : List Nd} {d : Int → Int} (hc : coneT ns0 id = pre ++ j :: l) (hd : Did ns0 ns d (fun x => x ∈ pre)) (hl : (ns.length : Int) ≤ L)
    {n : Nd} (hn : n = { ndF ns j with a := d (ndF ns j).a, b := d (ndF ns j).b, c := d (ndF ns j).c }) :
    formedF ns.length n = true ∧ (sortedF ns n).2 = 0 ∧ ((normF most f ns n).2.2 = 0 ∨ (normF most f ns n).2.2 = 33) ∧ ((normF most f ns n).2.2 = 0 → Did ns0 (normF most f ns n).1 (fun x => if x = j then (normF most f ns n).2.1 else d x) (fun x => x ∈ pre ++ [j])) ∧ (((normF most f ns n).1).length : Int) ≤ L := by
  have hk : j ∈ coneT ns0 id := by rw [hc]; simp
  obtain ⟨j, rfl, j1, j2⟩ := cone_mem hk
  have hrise := cone_rises ns0 id
  rw [hc] at hrise
  have k1 : (1 : Int) ≤ (j : Int) := by omega
  have k2 : (j : Int) ≤ ns0.length := by omega
  obtain ⟨i, hi, hni⟩ := nd_at k1 k2
  have N := next_ok g0 hd k1 k2 fun y hy h0 => by
    have := cone_kid g0.kok h1 h2 (j := i) (n := ndF ns0 j) (by rw [← hi]; exact hk) hni hy h0
    rw [← hi] at this
    refine mem_pre hrise ?_ this.2
    rw [← hc]; exact this.1
  obtain ⟨r1, r2⟩ := norm_next (most := most) (f := f) g0 hd k1 k2 N hn (by omega)
  have hlen := norm_len hL f (n := n) hl
  refine ⟨by rw [hn]; exact N.form, by rw [hn, N.srt], r1, fun h0 => ?_, hlen⟩
  have D := r2 h0
  exact ⟨D.more, D.gok, D.zero, fun x hx => D.did x (by simpa using hx)⟩
theorem simF_cons {most : Int} {f : Nat} {k : Int} {l : List Int} {ns : List Nd} {d : Int → Int} : simF most f (k :: l) ns d =
    if (normF most f ns { ndF ns k with a := d (ndF ns k).a, b := d (ndF ns k).b, c := d (ndF ns k).c }).2.2 = 0 then simF most f l (normF most f ns { ndF ns k with a := d (ndF ns k).a, b := d (ndF ns k).b, c := d (ndF ns k).c }).1 (fun x => if x = k then (normF most f ns { ndF ns k with a := d (ndF ns k).a, b := d (ndF ns k).b, c := d (ndF ns k).c }).2.1 else d x)
    else ((normF most f ns { ndF ns k with a := d (ndF ns k).a, b := d (ndF ns k).b, c := d (ndF ns k).c }).1, d, (normF most f ns { ndF ns k with a := d (ndF ns k).a, b := d (ndF ns k).b, c := d (ndF ns k).c }).2.2) := by
  conv => lhs; unfold simF
def MapAt (H : AHeap) (dn : Nat) (d : Int → Int) : Prop := ∃ es c fm, H.obj dn = .map (.one (.i .i64)) es c ∧ IM es fm ∧ ∀ x, d x = (fm x).getD 0
theorem MapAt.same {H H' : AHeap} {dn : Nat} {d : Int → Int} (h : MapAt H dn d) (e : H'.obj dn = H.obj dn) : MapAt H' dn d := by
  obtain ⟨es, c, fm, h1, h2, h3⟩ := h
  exact ⟨es, c, fm, by rw [e]; exact h1, h2, h3⟩
section
variable {H0 : AHeap} {w dn g : Nat} {most : Int} {ns : List Nd} {F : List Nat}
theorem sim_loop {H : AHeap} (hw : H0.size ≤ w) (hdn : H0.size ≤ dn) (h : WG H w dn g most ns F 0) (_hF : ∀ p, p ∈ F → p < H0.size) (kH : Keeps H0 H) (gk : Gok ns) {id : Int} (h1 : 1 ≤ id) (h2 : id ≤ ns.length) {f : Nat} (hf : most + 2 ≤ f) (hmap : H.obj dn = .map (.one (.i .i64)) [] 0) {v : AV} (hv : ∀ H, RI H v (coneT ns id)) (hcl : (coneT ns id).length ≤ 100000) {ev : Env} {r : Rn}
    (hL : loopL Try.prog KT R Zcl ev H = r) (e0 : ev 0 = some (.ptr g 0)) (e8 : ev 8 = some (.ptr w 0)) (e27 : ev 27 = some v) (e28 : ev 28 = some (.int .i64 (coneT ns id).length)) (e29 : ev 29 = some (.int .i64 0)) :
    ∃ x ev' H', r = some (x, ev', H') ∧ ((x = .exit 0 ∧ ∃ ns1 d F1, WG H' w dn g most ns1 F1 0 ∧ MapAt H' dn d ∧ simF most f (coneT ns id) ns (fun _ => 0) = (ns1, d, 0) ∧ Fr F H0 H' ∧ ∀ p, p ∈ F1 → p ∈ F ∨ H0.size ≤ p) ∨
      (x = .ret ∧ ∃ e ns1 F1, ¬ e = 0 ∧ e = (simF most f (coneT ns id) ns fun _ => 0).2.2 ∧ ev' 4 = some (.int .i64 0) ∧ ev' 5 = some (.int .i64 e) ∧ WG H' w dn g most ns1 F1 e ∧ Fr F H0 H' ∧ ∀ p, p ∈ F1 → p ∈ F ∨ H0.size ≤ p)) ∧ ∀ t, t ∉ defs Zcl → ev' t = ev t := by
  obtain ⟨cone, hcone⟩ : ∃ cone, cone = coneT ns id := ⟨_, rfl⟩
  rw [← hcone] at hv hcl e28 ⊢
  have D0 : Did ns ns (fun _ => 0) (fun x => x ∈ ([] : List Int)) := ⟨⟨[], by simp, by simp⟩, gk, fun _ _ => rfl, fun x hx => by cases hx⟩
  have frF : ∀ {A B : AHeap} {F1 : List Nat}, (∀ p, p ∈ F1 → p ∈ F ∨ H0.size ≤ p) → Fr F H0 A → Fr (w :: F1) A B → Fr F H0 B := fun {A B F1} hn a b => a.trans b fun p hp => by
    rcases List.mem_cons.1 hp with rfl | hp
    · exact .inr hw
    · exact hn p hp
  refine loop_count Zcl.eq_1 hL cone.length (fun i e1 H1 => e1 29 = some (.int .i64 i) ∧ ∃ ns1 d F1, WG H1 w dn g most ns1 F1 0 ∧ MapAt H1 dn d ∧ Did ns ns1 d (fun x => x ∈ cone.take i) ∧ simF most f cone ns (fun _ => 0) = simF most f (cone.drop i) ns1 d ∧ Fr F H0 H1 ∧ ∀ p, p ∈ F1 → p ∈ F ∨ H0.size ≤ p) _ 0 (Nat.zero_le _)
    ⟨e29, ns, fun _ => 0, F, h, ⟨[], 0, fun _ => none, hmap, IM.nil, fun _ => rfl⟩, by simpa using D0, by simp, kH.fr _, fun p hp => .inl hp⟩ ?_ ?_
  · rintro i e1 H1 hfr - hi' ⟨f29, ns1, d, F1, W, M, D, hs, k1, n1⟩
    have w1 : IntKind.i64.wrap ((i : Int) + 1) = (i : Int) + 1 := i64w (by omega) (by omega)
    have c1 : (i : Int) < cone.length := by omega
    have hv1 := hv H1
    obtain ⟨a1, a2⟩ := loadi_of hv1 hi'
    replace a2 := a2 H1 (Keeps.refl _)
    have hdrop : cone.drop i = cone.getD i 0 :: cone.drop (i + 1) := by
      rw [List.drop_eq_getElem_cons hi', List.getD_eq_getElem?_getD, List.getElem?_eq_getElem hi']; rfl
    have hcut : cone = cone.take i ++ cone.getD i 0 :: cone.drop (i + 1) := by rw [← hdrop, List.take_append_drop]
    have hta : cone.take (i + 1) = cone.take i ++ [cone.getD i 0] := by rw [List.take_add_one]; simp [List.getD_eq_getElem?_getD, hi']
    obtain ⟨k, hk⟩ : ∃ k, k = cone.getD i 0 := ⟨_, rfl⟩
    rw [← hk] at a2 hdrop hcut hta
    have hlim := W.G.lim
    obtain ⟨n, hn⟩ : ∃ n, n = ({ ndF ns1 k with a := d (ndF ns1 k).a, b := d (ndF ns1 k).b, c := d (ndF ns1 k).c } : Nd) := ⟨_, rfl⟩
    obtain ⟨sf, ss, sr, sd, sl⟩ := sim_step gk h1 h2 (Int.le_refl most) hf (by rw [← hcone]; exact hcut) D hlim.1 hn
    rw [hdrop] at hs
    rw [hta]
    have hnode := W.node k
    have hself := W.self
    have hlo := W.lo
    have hld := W.ld
    have hN := fun (HX : AHeap) (kX : Keeps H1 HX) (r : Option (AV × AHeap)) => norm_runs f (W.keeps kX) D.gok sf ss (by rcases sr with h | h <;> omega) (r := r)
    rw [simF_cons, ← hn] at hs
    obtain ⟨es, c, fm, om, im, dm⟩ := M
    have lka := im.look (ndF ns1 k).a
    have lkb := im.look (ndF ns1 k).b
    have lkc := im.look (ndF ns1 k).c
    rw [← dm] at lka lkb lkc
    obtain ⟨x, hx⟩ : ∃ x, x = ndF ns1 k := ⟨_, rfl⟩
    rw [← hx] at hnode lka lkb lkc
    have hcs : n.cs = [.int .i64 x.op, .int .i64 x.sort, .int .i64 (d x.a), .int .i64 (d x.b), .int .i64 (d x.c), .int .i64 x.p, .int .i64 x.q, .int .i64 x.vw, u x.vl, u x.vh, .str x.name] := by rw [hn, ← hx]; rfl
    simp only [hcs] at hN
    simp only [Nd.parts'] at hnode
    obtain ⟨HX, hX⟩ : ∃ HX, HX = ((((H1.new (.cells [.int .i64 0, .int .i64 0, .int .i64 0, .int .i64 0, .int .i64 0, .int .i64 0, .int .i64 0, .int .i64 0, u 0#64, u 0#64, .str .empty])).set H1.size (.cells [.int .i64 x.op, .int .i64 x.sort, .int .i64 x.a, .int .i64 x.b, .int .i64 x.c, .int .i64 x.p, .int .i64 x.q, .int .i64 x.vw, u x.vl, u x.vh, .str x.name])).set H1.size (.cells [.int .i64 x.op, .int .i64 x.sort, .int .i64 (d x.a), .int .i64 x.b, .int .i64 x.c, .int .i64 x.p, .int .i64 x.q, .int .i64 x.vw, u x.vl, u x.vh, .str x.name])).set H1.size (.cells [.int .i64 x.op, .int .i64 x.sort, .int .i64 (d x.a), .int .i64 (d x.b), .int .i64 x.c, .int .i64 x.p, .int .i64 x.q, .int .i64 x.vw, u x.vl, u x.vh, .str x.name])).set H1.size (.cells [.int .i64 x.op, .int .i64 x.sort, .int .i64 (d x.a), .int .i64 (d x.b), .int .i64 (d x.c), .int .i64 x.p, .int .i64 x.q, .int .i64 x.vw, u x.vl, u x.vh, .str x.name]) := ⟨_, rfl⟩
    have kX : Keeps H1 HX := by rw [hX]; ((repeat (first | exact Keeps.refl _ | assumption | refine Keeps.new' ?_ _ | refine Keeps.set ?_ ?_ _)) <;> (first | assumption | (simp; done) | (simp; omega)))
    have obX : HX.obj H1.size = (.cells [.int .i64 x.op, .int .i64 x.sort, .int .i64 (d x.a), .int .i64 (d x.b), .int .i64 (d x.c), .int .i64 x.p, .int .i64 x.q, .int .i64 x.vw, u x.vl, u x.vh, .str x.name]) := by rw [hX]; simp
    have lX : H1.size < HX.size := by rw [hX]; simp
    have WX := W.keeps kX
    have selfX := WX.self
    have loX := WX.lo
    have ldX := WX.ld
    obtain ⟨H3, F3, ns3, id3, e3, hA, W3, k3, n3, ok, bad⟩ := hN HX kX _ rfl
    have hld' : ∀ ev : Env, ev 8 = some (.ptr w 0) → ev 65 = some (.ptr w 1) → markLd [3, 7, 801, 997, 1008] ev (.tmp 65) (.map dn) = true := fun ev q1 q2 => markLd_one (s := 8) (d := 1) (o := w) (off := 0) (by rfl) (by rfl) q1 q2 (by rfl)
    have hcl' : ∀ ev : Env, ev 8 = some (.ptr w 0) → markCl [3, 7, 801, 997, 1008] ev HX H3 = true := fun ev q1 => markCl_one (s := 8) (d := 1) (o := w) (off := 0) (by rfl) (by rfl) q1 (by rw [W3.self, selfX]; rfl)
    have hdF : dn ∉ w :: F1 := fun hp => by
      rcases List.mem_cons.1 hp with hp | hp
      · exact W.ne hp.symm
      · exact (W.off dn hp).2 rfl
    have om3 : H3.obj dn = .map (.one (.i .i64)) es c := by rw [k3.obj dn ldX hdF, kX.obj dn hld, om]
    obtain ⟨es', c', hup, im'⟩ := im.updM k id3 H3 dn c om3
    have hX3 := kX.size
    have hk1 := k1.size
    have nn3 : ∀ p, p ∈ F3 → p ∈ F ∨ H0.size ≤ p := fun p hp => by
      rcases n3 p hp with h | h
      · exact n1 p h
      · exact .inr (by omega)
    obtain ⟨H4, hH4⟩ : ∃ H4, H4 = H3.set dn (.map (.one (.i .i64)) es' c') := ⟨_, rfl⟩
    have k4 : Fr [dn] H3 H4 := by rw [hH4]; exact (Fr.refl _ H3).set (.inl (by simp)) _
    have W4 : WG H4 w dn g most ns3 F3 e3 := ⟨by rw [k4.obj w W3.lo (by simpa using W.ne)]; exact W3.self, k4.lt W3.lo, k4.lt W3.ld, W3.G.frame k4 fun p hp => by simpa using (W3.off p hp).2, W3.off, W3.ne⟩
    have kf : Fr F H0 H4 := ((frF (B := H3) n1 k1 ((kX.fr _).trans k3 fun p hp => .inl hp))).trans k4 fun p hp => by
      simp at hp; subst hp; exact .inr hdn
    have M4 : MapAt H4 dn (fun y => if y = k then id3 else d y) := ⟨es', c', _, by rw [hH4]; simp, im', fun y => by
      by_cases c : y = k
      · simp only [c, if_true]; rfl
      · simp only [c, if_false]; exact dm y⟩
    have self4 := W4.self
    have lo4 := W4.lo
    rw [← hH4] at hup
    simp (maxDischargeDepth := 40) (maxSteps := 1000000) [-updM_map, hfr, f29, e0, e8, e27, e28, c1, a1, a2, hnode, hself, hlo, hld, om, lka, lkb, lkc, ← hX]
    simp (maxDischargeDepth := 40) (maxSteps := 1000000) [-updM_map, hfr, e8, obX, selfX, hld', hcl', hA, hup, self4]
    by_cases h0 : (normF most f ns1 n).2.2 = 0
    · obtain ⟨rfl, rfl, rfl⟩ := ok h0
      rw [if_pos h0] at hs
      simp (maxDischargeDepth := 40) [f29, w1]
      have D3 := sd h0
      exact ⟨_, _, F3, W4, M4, ⟨D3.more, D3.gok, D3.zero, fun y hy => D3.did y (by simpa using hy)⟩, hs, kf, nn3⟩
    · have he := bad h0
      have he3 : ¬ e3 = 0 := by rw [he]; exact h0
      rw [if_neg h0] at hs
      simp (maxDischargeDepth := 40) [hfr, e8, self4, he3]
      exact ⟨e3, he3, by rw [hs]; exact he, rfl, ns3, F3, W4, kf, nn3⟩
  · rintro e1 H1 hfr ⟨f29, ns1, d, F1, W, M, D, hs, k1, n1⟩
    simp [hfr, f29, e28]
    refine ⟨ns1, d, F1, W, M, ?_, k1, n1⟩
    rw [hs, List.drop_length]
    rfl
theorem GT.back2 {H' : AHeap} {js : List Nd} {F' : List Nat} (g0 : GT H0 g most ns F) (g1 : GT H' g most js F') (k : Fr F H0 H') (a b : Int) :
    ∃ D, back [] H0 (.tup [.int .i64 a, .int .i64 b]) H' = (.tup [.int .i64 a, .int .i64 b], D) ∧ GT D g most js F' ∧ Fr F H0 D := by
  by_cases hs : Shut H0 H'
  · rw [back_nil (by simp) hs]
    obtain ⟨g2, -⟩ := g0.cut g1 hs
    exact ⟨_, rfl, g2, k.cutF⟩
  · rw [back_not hs]
    exact ⟨_, rfl, g1, k⟩
theorem simplify_run (G : GT H0 g most ns F) (gk : Gok ns) {id : Int} {f : Nat} (hf : most + 2 ≤ f) {r : Option (AV × AHeap)} (hr : R Zz [.ptr g 0, .int .i64 id] H0 = r) :
    ∃ H' F' ns', r = some (.tup [.int .i64 (simT most f ns id).2.1, .int .i64 (simT most f ns id).2.2], H') ∧ GT H' g most ns' F' ∧ Fr F H0 H' ∧ (∀ p, p ∈ F' → p ∈ F ∨ H0.size ≤ p) ∧ ((simT most f ns id).2.2 = 0 → ns' = (simT most f ns id).1) := by
  rw [Zfi] at hr
  have hnode : ∀ id, R Zo [.ptr g 0, .int .i64 id] H0 = some (.tup [.agg (ndF ns id).cs, .bool (nodeS ns id).isSome], H0) := fun id => by
    obtain ⟨o1, o2, o3, t, -⟩ := G
    exact node_run t
  have hn := hnode id
  have hF : ∀ p, p ∈ F → p < H0.size := fun p hp => G.ltF hp
  obtain ⟨x, hx⟩ : ∃ x, x = ndF ns id := ⟨_, rfl⟩
  rw [← hx] at hn
  simp only [Nd.parts'] at hn
  by_cases c : id < 1 ∨ (ns.length : Int) < id
  · have hno : nodeS ns id = none := by
      unfold nodeS
      by_cases c1 : id < 1
      · first | rw [if_pos c1] | rw [if_pos (Or.inl c1)] | simp [c1]
      · first | (rw [if_neg (by omega)]; exact List.getElem?_eq_none (by omega)) | (rw [if_pos (by omega)])
    rw [hno] at hn
    have hs : simT most f ns id = (ns, 0, 70) := by unfold simT; rw [if_pos c]
    rw [hs]
    simp (maxDischargeDepth := 40) [Zdo, hn] at hr
    exact ⟨H0, F, ns, hr.symm, G, Fr.refl _ _, fun p hp => .inl hp, fun h => by cases h⟩
  · obtain ⟨i, hi, hni⟩ := nd_at (ns := ns) (k := id) (by omega) (by omega)
    have hyes : (nodeS ns id).isSome = true := by
      unfold nodeS
      rw [if_neg (by omega), show (id - 1).toNat = i by omega, hni]
      rfl
    rw [hyes] at hn
    obtain ⟨v, hc, hv⟩ := cone_run2 (G.keeps (((((Keeps.refl H0).new' (.cells Nd.zero.cs)).set (o := H0.size) (Nat.le_refl _) (.cells x.cs)).new' (.map (.one (.i .i64)) [] 0)).new' (.cells [.ptr g 0, .map (H0.size + 1), .int .i64 0]))) (id := id)
    have hlen := (hv H0).len
    simp only [Nd.parts'] at hc
    simp (maxDischargeDepth := 40) [Nd.zero] at hc
    obtain ⟨HX, hX⟩ : ∃ HX, HX = (((H0.new (.cells [.int .i64 0, .int .i64 0, .int .i64 0, .int .i64 0, .int .i64 0, .int .i64 0, .int .i64 0, .int .i64 0, u 0#64, u 0#64, .str .empty])).set H0.size (.cells [.int .i64 x.op, .int .i64 x.sort, .int .i64 x.a, .int .i64 x.b, .int .i64 x.c, .int .i64 x.p, .int .i64 x.q, .int .i64 x.vw, u x.vl, u x.vh, .str x.name])).new (.map (.one (.i .i64)) [] 0)).new (.cells [.ptr g 0, .map (H0.size + 1), .int .i64 0]) := ⟨_, rfl⟩
    have kX : Keeps H0 HX := by rw [hX]; ((repeat (first | exact Keeps.refl _ | assumption | refine Keeps.new' ?_ _ | refine Keeps.set ?_ ?_ _)) <;> (first | assumption | (simp; done) | (simp; omega)))
    have sX : HX.size = H0.size + 3 := by rw [hX]; simp
    have hmap : HX.obj (H0.size + 1) = .map (.one (.i .i64)) [] 0 := by rw [hX]; simp
    have WX : WG HX (H0.size + 1 + 1) (H0.size + 1) g most ns F 0 := ⟨by rw [hX]; simp, by omega, by omega, G.keeps kX, fun p hp => by have := hF p hp; omega, by omega⟩
    have hcl : (coneT ns id).length ≤ 100000 := by
      have hlim := G.lim
      unfold coneT
      rw [if_neg (by omega)]
      have := outT_len (coneM ns id.toNat) (id.toNat + 1)
      omega
    rw [← hX] at hc
    simp (maxDischargeDepth := 40) [Zdo, hn, ← hX, hc, hlen] at hr
    generalize hL : loopL _ _ _ _ _ _ = q at hr
    obtain ⟨xx, ev, H3, rfl, hx3, fr⟩ := sim_loop (by omega) (by omega) WX hF kX gk (by omega) (by omega) hf hmap hv hcl hL (by simp) (by simp) (by simp) (by simp) (by simp)
    rcases hx3 with ⟨rfl, ns1, d, F1, W1, ⟨es, c2, fm, om, im, dm⟩, hsim, kf, n1⟩ | ⟨rfl, e, ns1, F1, he, hes, f4, f5, W1, kf, n1⟩
    · have hs : simT most f ns id = (ns1, d id, 0) := by
        unfold simT
        rw [if_neg (by omega), hsim]
        rfl
      have lk := im.look id
      rw [← dm] at lk
      rw [hs]
      simp (maxDischargeDepth := 40) [fr, W1.self, om, lk] at hr
      obtain ⟨D, hD, g4, k4⟩ := G.back2 W1.G kf (d id) 0
      rw [hD] at hr
      exact ⟨D, F1, ns1, hr.symm, g4, k4, n1, fun _ => rfl⟩
    · have hs : simT most f ns id = ((simF most f (coneT ns id) ns fun _ => 0).1, 0, e) := by
        unfold simT
        rw [if_neg (by omega), if_neg (by rw [← hes]; exact he), ← hes]
      rw [hs]
      simp (maxDischargeDepth := 40) [f4, f5] at hr
      obtain ⟨D, hD, g4, k4⟩ := G.back2 W1.G kf 0 e
      rw [hD] at hr
      exact ⟨D, F1, ns1, hr.symm, g4, k4, n1, fun h => absurd h he⟩
end
end Go.Proofs.Ytiobohfiaapgeaa
end
section
namespace Go.Proofs.Ytiobohfiaapgeaa
set_option maxRecDepth 100000
end Go.Proofs.Ytiobohfiaapgeaa
end
section
namespace Go.Proofs.Ytiobohfiaapgeaa
set_option maxRecDepth 100000
set_option maxHeartbeats 4000000
theorem len_run {H : AHeap} {g : Nat} {most : Int} {ns : List Nd} {o1 o2 o3 : Nat} (h : TG H g most ns o1 o2 o3) : R Zbr [.ptr g 0] H = some (.int .i64 ns.length, H) := by
  rw [Zfy]
  simp (maxDischargeDepth := 40) [Zei, h.og, slv_len]
end Go.Proofs.Ytiobohfiaapgeaa
end
section
namespace Go.Proofs.Ytiobohfiaapgeaa
set_option maxRecDepth 100000
set_option maxHeartbeats 4000000
theorem made7_loop {H0 H : AHeap} {g : Nat} {l : List Nd} {F : List Nat} (hl : l.length ≤ 60) (G0 : GT H g 4096 [] F) (k0 : Keeps H0 H) (f0 : ∀ p, p ∈ F → H0.size ≤ p) {e : Env} {r : Rn} (hL : loopL Try.prog KT R Zc0 e H = r)
    (e0 : e 0 = some (NL l)) (e4 : e 4 = some (.ptr g 0)) (e5 : e 5 = some (.int .i64 0)) :
    ∃ y e' H', r = some (y, e', H') ∧ (Keeps H0 H' ∧ ((y = .exit 0 ∧ ∃ ns F, GT H' g 4096 ns F ∧ (∀ p, p ∈ F → H0.size ≤ p) ∧ Gok ns ∧ ns.length ≤ l.length) ∨ (y = .ret ∧ e' 2 = some .nilp ∧ e' 3 = some (.bool false)))) ∧ ∀ t, t ∉ defs Zc0 → e' t = e t := by
  refine loop_count Zc0.eq_1 hL l.length (fun i e1 H1 => e1 5 = some (.int .i64 i) ∧ Keeps H0 H1 ∧ ∃ ns F, GT H1 g 4096 ns F ∧ (∀ p, p ∈ F → H0.size ≤ p) ∧ Gok ns ∧ ns.length ≤ i) _ 0 (by omega) ⟨e5, k0, [], F, G0, f0, Gok.nil, Nat.le_refl _⟩ ?_ ?_
  · rintro i f H1 hf - hi ⟨f5, k1, ns, F1, G1, f1, gok, hnl⟩
    have w1 : IntKind.i64.wrap ((i : Int) + 1) = (i : Int) + 1 := i64w (by omega) (by omega)
    have c1 : (i : Int) < l.length := by omega
    obtain ⟨n, hn⟩ : ∃ n, l[i]? = some n := ⟨l[i], by simp [hi]⟩
    have hat := flat_at hn
    have hfl := flat_len l
    have hle : i * 11 + 11 ≤ l.length * 11 := by omega
    have hle10 : i * 11 + 10 < l.length * 11 := by omega
    have hat10 : (flat l)[i * 11 + 8 + 2]? = some (.str n.name) := by
      rw [show i * 11 + 8 + 2 = i * 11 + 10 from by omega, flat_get hn (by omega)]; rfl
    by_cases c2 : (60 : Int) < n.name.size
    · simp (maxDischargeDepth := 40) [hf, NL, e0, f5, c1, hat10, c2]
      exact k1
    · simp (maxDischargeDepth := 40) [hf, NL, e0, e4, f5, c1, hfl, hle, hat, hat10, c2]
      generalize hN : R Zn _ _ = qq
      obtain ⟨js, x, er, hmk⟩ : ∃ js x er, makT 4096 ns n = (js, x, er) := ⟨_, _, _, rfl⟩
      have gk : Gok js := by have := gok.make (most := 4096) (n := n); rw [hmk] at this; exact this
      have hjl : js.length ≤ ns.length + 1 := by have := makT_len (most := 4096) (ns := ns) (n := n); rw [hmk] at this; exact this
      obtain ⟨H2, F2, rfl, g2, m2⟩ := GvT.go G1 hmk hN
      simp (maxDischargeDepth := 40) [f5, w1]
      have hsz := k1.size
      refine ⟨m2.fr.keeps k1 f1, js, F2, g2, fun p hp => ?_, gk, by omega⟩
      rcases m2.new p hp with h | h
      · exact f1 p h
      · omega
  · rintro f H1 hf ⟨f5, k1, ns, F1, G1, f1, gok, hnl⟩
    simp [hf, NL, f5, e0]
    exact ⟨k1, ns, F1, G1, f1, gok, by omega⟩
theorem made7_run {H : AHeap} {l : List Nd} {r : Option (AV × AHeap)} (h : R Zdc [NL l] H = r) :
    (∃ p, r = some (.tup [p, .bool false], H)) ∨ ∃ g ns F H', r = some (.tup [.ptr g 0, .bool (decide (0 < ns.length))], H') ∧ GT H' g 4096 ns F ∧ Keeps H H' ∧ (∀ p, p ∈ F → H.size ≤ p) ∧ Gok ns ∧ ns.length ≤ 60 := by
  rw [Zg1] at h
  by_cases c1 : (60 : Int) < l.length
  · simp (maxDischargeDepth := 40) [Zey, NL, c1] at h
    exact .inl ⟨_, h.symm⟩
  · have hl : l.length ≤ 60 := by omega
    simp (maxDischargeDepth := 40) [Zey, NL, c1] at h
    generalize hN : R Zej _ _ = q at h
    obtain ⟨H1, g, F1, rfl, g1, k1, f1⟩ := tnew_run hN
    rw [show min (max (4096 : Int) 1) 4096 = 4096 from by decide] at g1
    simp (maxDischargeDepth := 40) at h
    generalize hL : loopL _ _ _ _ _ _ = q2 at h
    obtain ⟨y, e3, H3, rfl, ⟨k3, hy⟩, fr⟩ := made7_loop hl g1 k1 f1 hL (by simp [NL]) (by simp) (by simp)
    rcases hy with ⟨rfl, ns, F3, G3, f3, gok, hnl⟩ | ⟨rfl, a2, a3⟩
    · right
      have hl3 : R Zbr [.ptr g 0] H3 = some (.int .i64 ns.length, H3) := by
        obtain ⟨p1, p2, p3, t, -⟩ := G3
        exact len_run t
      simp (maxDischargeDepth := 40) [fr, hl3] at h
      have hg : H.size ≤ g := f3 g G3.mem
      rw [back_open (by simp [closed]; omega)] at h
      exact ⟨g, ns, F3, H3, h.symm, G3, k3, f3, gok, by omega⟩
    · left
      simp (maxDischargeDepth := 40) [a2, a3, k3] at h
      exact ⟨_, h.symm⟩
end Go.Proofs.Ytiobohfiaapgeaa
end
section
namespace Go.Proofs.Ytiobohfiaapgeaa
set_option maxRecDepth 100000
def r1 : Nd := ⟨2, 4, 0, 0, 0, 0, 0, 0, 0#64, 0#64, ⟨#[120]⟩⟩
def r2 : Nd := ⟨1, 4, 0, 0, 0, 0, 0, 4, 3#64, 0#64, .empty⟩
def r3 : Nd := ⟨1, 4, 0, 0, 0, 0, 0, 4, 0#64, 0#64, .empty⟩
def r4 : Nd := ⟨20, 0, 2, 3, 0, 0, 0, 0, 0#64, 0#64, .empty⟩
def r4' : Nd := ⟨20, 4, 2, 3, 0, 0, 0, 0, 0#64, 0#64, .empty⟩
def r5 : Nd := ⟨18, 0, 1, 4, 0, 0, 0, 0, 0#64, 0#64, .empty⟩
def r5' : Nd := ⟨18, 4, 1, 4, 0, 0, 0, 0, 0#64, 0#64, .empty⟩
def r6 : Nd := ⟨8, 0, 1, 1, 0, 0, 0, 0, 0#64, 0#64, .empty⟩
def r7 : Nd := ⟨1, 0, 0, 0, 0, 0, 0, 0, 1#64, 0#64, .empty⟩
theorem rmk1 : makT 50 [] r1 = ([r1], 1, 0) := by decide
theorem rmk2 : makT 50 [r1] r2 = ([r1, r2], 2, 0) := by decide
theorem rmk3 : makT 50 [r1, r2] r3 = ([r1, r2, r3], 3, 0) := by decide
theorem rmk4 : makT 50 [r1, r2, r3] r4 = ([r1, r2, r3, r4'], 4, 0) := by decide
theorem rmk5 : makT 50 [r1, r2, r3, r4'] r5 = ([r1, r2, r3, r4', r5'], 5, 0) := by decide
theorem rmk6 : makT 50 [r1, r2, r3, r4', r5'] r6 = ([r1, r2, r3, r4', r5', r6], 6, 0) := by decide
theorem rsim5 : simT 50 60 [r1, r2, r3, r4', r5', r6] 5 = ([r1, r2, r3, r4', r5', r6], 1, 0) := by decide
theorem rsim6 : simT 50 60 [r1, r2, r3, r4', r5', r6] 6 = ([r1, r2, r3, r4', r5', r6, r7], 7, 0) := by decide
theorem rsim99 : simT 50 60 [r1, r2, r3, r4', r5', r6, r7] 99 = ([r1, r2, r3, r4', r5', r6, r7], 0, 70) := by decide
theorem rcone5 : coneT [r1, r2, r3, r4', r5', r6, r7] 5 = [1, 2, 3, 4, 5] := by decide
theorem rnode7 : ndF [r1, r2, r3, r4', r5', r6, r7] 7 = r7 := by decide
theorem rgok6 : Gok [r1, r2, r3, r4', r5', r6] := by
  have a1 := Gok.nil.make (most := 50) (n := r1)
  rw [rmk1] at a1
  have a2 := a1.make (most := 50) (n := r2)
  rw [rmk2] at a2
  have a3 := a2.make (most := 50) (n := r3)
  rw [rmk3] at a3
  have a4 := a3.make (most := 50) (n := r4)
  rw [rmk4] at a4
  have a5 := a4.make (most := 50) (n := r5)
  rw [rmk5] at a5
  have a6 := a5.make (most := 50) (n := r6)
  rw [rmk6] at a6
  exact a6
theorem rgok7 : Gok [r1, r2, r3, r4', r5', r6, r7] := by
  have a6 := rgok6.make (most := 50) (n := r7)
  rw [show makT 50 [r1, r2, r3, r4', r5', r6] r7 = ([r1, r2, r3, r4', r5', r6, r7], 7, 0) by decide] at a6
  exact a6
end Go.Proofs.Ytiobohfiaapgeaa
end
section
namespace Go.Proofs.Ytiobohfiaapgeaa
set_option maxRecDepth 100000
set_option maxHeartbeats 2000000
theorem tmod_cases (k n : Int) (hn : 0 < n) : (k.tmod n < 0 → k % n = k.tmod n + n) ∧ (¬ k.tmod n < 0 → k % n = k.tmod n) ∧ k.tmod n < n ∧ - n < k.tmod n := by
  have h := Int.tmod_eq_emod (a := k) (b := n)
  have h1 := Int.emod_nonneg k (by omega : n ≠ 0)
  have h2 := Int.emod_lt_of_pos k hn
  rw [h]
  split
  · simp; omega
  · rename_i hh
    have : (n.natAbs : Int) = n := by omega
    rw [this]
    refine ⟨by omega, ?_, by omega, ?_⟩
    · intro hx; omega
    · have : ¬ k % n = 0 := by
        intro h0; exact hh (Or.inr (Int.dvd_of_emod_eq_zero h0))
      omega
theorem place_run {k n : Int} (hn : 0 < n) (hn2 : n ≤ 1000000) {H : AHeap} : R Zdy [.int .i64 k, .int .i64 n] H = some (.int .i64 (k % n), H) := by
  rw [Zgs]
  obtain ⟨q1, q2, q3, q4⟩ := tmod_cases k n hn
  have h0 : ¬ n = 0 := by omega
  by_cases c : k.tmod n < 0
  · have hw2 : IntKind.i64.wrap (k.tmod n + n) = k.tmod n + n := i64w (by omega) (by omega)
    simp (maxDischargeDepth := 40) [Zel, h0, c, hw2, q1 c]
  · simp (maxDischargeDepth := 40) [Zel, h0, c, q2 c]
end Go.Proofs.Ytiobohfiaapgeaa
end
section
namespace Go.Proofs.Ytiobohfiaapgeaa
set_option maxRecDepth 100000
set_option maxHeartbeats 4000000
structure Sg (H H' : AHeap) (g : Nat) (most : Int) (ns : List Nd) (F : List Nat) : Prop where
  G : GT H' g most ns F
  k : Keeps H H'
  new : ∀ p, p ∈ F → H.size ≤ p
section
variable {H H1 : AHeap} {g : Nat} {most : Int} {ns : List Nd} {F : List Nat}
theorem Sg.keep {H2 : AHeap} (S : Sg H H1 g most ns F) (k : Keeps H1 H2) : Sg H H2 g most ns F := ⟨S.G.keeps k, S.k.trans k, S.new⟩
theorem Sg.make (S : Sg H H1 g most ns F) {n : Nd} {js : List Nd} {x er : Int} (hmk : makT most ns n = (js, x, er)) {q : Option (AV × AHeap)} (hN : R Zn [.ptr g 0, .agg n.cs] H1 = q) :
    ∃ H2 F2, q = some (.tup [.int .i64 x, .int .i64 er], H2) ∧ Sg H H2 g most js F2 := by
  obtain ⟨H2, F2, rfl, g2, m2⟩ := GvT.go S.G hmk hN
  refine ⟨H2, F2, rfl, g2, m2.fr.keeps S.k S.new, fun p hp => ?_⟩
  have := S.k.size
  rcases m2.new p hp with h | h
  · exact S.new p h
  · omega
theorem Sg.simp (S : Sg H H1 g most ns F) (gk : Gok ns) {f : Nat} (hf : most + 2 ≤ f) {id : Int} {q : Option (AV × AHeap)} (hN : R Zz [.ptr g 0, .int .i64 id] H1 = q) :
    ∃ H2 F2 js, q = some (.tup [.int .i64 (simT most f ns id).2.1, .int .i64 (simT most f ns id).2.2], H2) ∧ Sg H H2 g most js F2 ∧ Fr F H1 H2 ∧ ((simT most f ns id).2.2 = 0 → js = (simT most f ns id).1) := by
  obtain ⟨H2, F2, js, rfl, g2, k2, n2, ok⟩ := simplify_run S.G gk hf hN
  refine ⟨H2, F2, js, rfl, ⟨g2, k2.keeps S.k S.new, fun p hp => ?_⟩, k2, ok⟩
  have := S.k.size
  rcases n2 p hp with h | h
  · exact S.new p h
  · omega
theorem Sg.node (S : Sg H H1 g most ns F) (id : Int) : R Zo [.ptr g 0, .int .i64 id] H1 = some (.tup [.agg (ndF ns id).cs, .bool (nodeS ns id).isSome], H1) := by
  obtain ⟨o1, o2, o3, t, -⟩ := S.G
  exact node_run t
theorem node_yes {ns : List Nd} {id : Int} (h1 : 1 ≤ id) (h2 : id ≤ ns.length) : (nodeS ns id).isSome = true := by
  obtain ⟨i, hi, hni⟩ := nd_at h1 h2
  unfold nodeS
  rw [if_neg (by omega), show (id - 1).toNat = i by omega, hni]
  rfl
theorem weight_run (G : GT H1 g most ns F) {id : Int} (h1 : 1 ≤ id) (h2 : id ≤ ns.length) : R Zcj [.ptr g 0, .int .i64 id] H1 = some (.tup [.int .i64 (coneT ns id).length, .int .i64 0], H1) := by
  rw [Zfw]
  have hn : R Zo [.ptr g 0, .int .i64 id] H1 = some (.tup [.agg (ndF ns id).cs, .bool true], H1) := by
    have hy := node_yes h1 h2
    obtain ⟨o1, o2, o3, t, -⟩ := G
    rw [← hy]
    exact node_run t
  obtain ⟨x, hx⟩ : ∃ x, x = ndF ns id := ⟨_, rfl⟩
  rw [← hx] at hn
  have kX : Keeps H1 ((H1.new (.cells Nd.zero.cs)).set H1.size (.cells x.cs)) := by ((repeat (first | exact Keeps.refl _ | assumption | refine Keeps.new' ?_ _ | refine Keeps.set ?_ ?_ _)) <;> (first | assumption | (simp; done) | (simp; omega)))
  obtain ⟨v, hc, hv⟩ := cone_run2 (G.keeps kX) (id := id)
  have hlen := (hv H1).len
  simp only [Nd.parts'] at hc hn
  simp (maxDischargeDepth := 40) [Nd.zero] at hc
  simp (maxDischargeDepth := 40) [Zez, hn, hc, hlen]
end
theorem known7_run {H : AHeap} : R Zc5 [] H = some (.bool true, H) := by
  generalize h : R Zc5 [] H = r
  rw [Zgr] at h
  simp (maxDischargeDepth := 40) [Zfn] at h
  generalize hN : R Zej _ _ = q at h
  obtain ⟨H1, g, F1, rfl, g1, k1, f1⟩ := tnew_run hN
  rw [show min (max (50 : Int) 1) 4096 = 50 from by decide] at g1
  have S1 : Sg H H1 g 50 [] F1 := ⟨g1, k1, f1⟩
  simp (maxDischargeDepth := 40) at h
  generalize hN : R Zn _ _ = q at h
  obtain ⟨H2, F2, rfl, S2⟩ := S1.make (n := r1) rmk1 hN
  simp (maxDischargeDepth := 40) at h
  generalize hN : R Zn _ _ = q at h
  obtain ⟨H3, F3, rfl, S3⟩ := S2.make (n := r2) rmk2 hN
  simp (maxDischargeDepth := 40) at h
  generalize hN : R Zn _ _ = q at h
  obtain ⟨H4, F4, rfl, S4⟩ := S3.make (n := r3) rmk3 hN
  simp (maxDischargeDepth := 40) at h
  generalize hN : R Zn _ _ = q at h
  obtain ⟨H5, F5, rfl, S5⟩ := S4.make (n := r4) rmk4 hN
  simp (maxDischargeDepth := 40) at h
  generalize hN : R Zn _ _ = q at h
  obtain ⟨H6, F6, rfl, S6⟩ := S5.make (n := r5) rmk5 hN
  simp (maxDischargeDepth := 40) at h
  generalize hN : R Zn _ _ = q at h
  obtain ⟨H7, F7, rfl, S7⟩ := S6.make (n := r6) rmk6 hN
  simp (maxDischargeDepth := 40) at h
  generalize hN : R Zz _ _ = q at h
  obtain ⟨H8, F8, js, rfl, S8, -, ok8⟩ := S7.simp rgok6 (f := 60) (by decide) hN
  rw [rsim5] at h ok8
  obtain rfl := ok8 rfl
  simp (maxDischargeDepth := 40) at h
  generalize hN : R Zz _ _ = q at h
  obtain ⟨H9, F9, js, rfl, S9, -, ok9⟩ := S8.simp rgok6 (f := 60) (by decide) hN
  rw [rsim6] at h ok9
  obtain rfl := ok9 rfl
  have hnode := S9.node 7
  rw [rnode7, show (nodeS [r1, r2, r3, r4', r5', r6, r7] 7).isSome = true by decide] at hnode
  simp only [Nd.cs, r7] at hnode
  obtain ⟨HX, hX⟩ : ∃ HX, HX = (H9.new (.cells [.int .i64 0, .int .i64 0, .int .i64 0, .int .i64 0, .int .i64 0, .int .i64 0, .int .i64 0, .int .i64 0, u 0#64, u 0#64, .str .empty])).set H9.size (.cells [.int .i64 1, .int .i64 0, .int .i64 0, .int .i64 0, .int .i64 0, .int .i64 0, .int .i64 0, .int .i64 0, u 1#64, u 0#64, .str .empty]) := ⟨_, rfl⟩
  have kX : Keeps H9 HX := by rw [hX]; ((repeat (first | exact Keeps.refl _ | assumption | refine Keeps.new' ?_ _ | refine Keeps.set ?_ ?_ _)) <;> (first | assumption | (simp; done) | (simp; omega)))
  have oX : HX.obj H9.size = (.cells [.int .i64 1, .int .i64 0, .int .i64 0, .int .i64 0, .int .i64 0, .int .i64 0, .int .i64 0, .int .i64 0, u 1#64, u 0#64, .str .empty]) := by rw [hX]; simp
  have lX : H9.size < HX.size := by rw [hX]; simp
  have S10 := S9.keep kX
  have hwt := weight_run S10.G (id := 5) (by decide) (by decide)
  rw [rcone5] at hwt
  obtain ⟨q, hq⟩ : ∃ q, q = R Zz [.ptr g 0, .int .i64 99] HX := ⟨_, rfl⟩
  obtain ⟨H11, F11, js, hq2, S11, k11, -⟩ := S10.simp rgok7 (f := 60) (by decide) hq.symm
  rw [rsim99] at hq2
  have hsi : R Zz [.ptr g 0, .int .i64 99] HX = some (.tup [.int .i64 0, .int .i64 70], H11) := by rw [← hq]; exact hq2
  have o11 : H11.obj H9.size = (.cells [.int .i64 1, .int .i64 0, .int .i64 0, .int .i64 0, .int .i64 0, .int .i64 0, .int .i64 0, .int .i64 0, u 1#64, u 0#64, .str .empty]) := by
    rw [k11.obj _ lX (fun hp => by have := S9.G.ltF hp; omega)]
    exact oX
  have l11 := k11.lt lX
  simp (maxDischargeDepth := 40) [hnode, ← hX] at h
  simp (maxDischargeDepth := 40) [hwt, hsi, o11, S11.k] at h
  exact h.symm
end Go.Proofs.Ytiobohfiaapgeaa
end
section
namespace Go.Proofs.Ytiobohfiaapgeaa
set_option maxRecDepth 100000
set_option maxHeartbeats 4000000
theorem AllFit.less {look : ByteArray → Option Vl} {ns t : List Nd} (h : AllFit look (ns ++ t)) : AllFit look ns := fun i n hn h2 => h i n (by rw [List.getElem?_append_left (List.getElem?_eq_some_iff.1 hn).1]; exact hn) h2
end Go.Proofs.Ytiobohfiaapgeaa
end
section
namespace Go.Proofs.Ytiobohfiaapgeaa
set_option maxRecDepth 100000
set_option maxHeartbeats 2000000
theorem ndF_out {ns : List Nd} {k : Int} (h : k < 1) : ndF ns k = Nd.zero := by
  unfold ndF nodeS
  rw [if_pos (by omega)]
  rfl
theorem ndF_le {ns t : List Nd} {k : Int} (h2 : k ≤ ns.length) : ndF (ns ++ t) k = ndF ns k := by
  by_cases c : 1 ≤ k
  · exact ndF_more c h2
  · rw [ndF_out (by omega), ndF_out (by omega)]
section
variable {ns t : List Nd}
theorem conF_le {k : Int} (h2 : k ≤ ns.length) : conF (ns ++ t) k = conF ns k := by unfold conF; rw [ndF_le h2]
theorem isF_le {k : Int} {b : BitVec 64} (h2 : k ≤ ns.length) : isF (ns ++ t) k b = isF ns k b := by unfold isF; rw [conF_le h2]
theorem consF_le : ∀ {l : List Int}, (∀ k, k ∈ l → k ≤ ns.length) → consF (ns ++ t) l = consF ns l
  | [], _ => rfl
  | k :: l, h => by
    unfold consF
    rw [conF_le (h k (by simp)), consF_le fun x hx => h x (by simp [hx])]
theorem foldF_le {n : Nd} (h1 : n.a ≤ ns.length) (h2 : n.b ≤ ns.length) (h3 : n.c ≤ ns.length) : foldF (ns ++ t) n = foldF ns n := by
  unfold foldF
  rw [consF_le fun k hk => by
    have := List.mem_of_mem_take hk
    simp at this
    rcases this with rfl | rfl | rfl <;> assumption]
theorem kid_le (kok : Kok ns) {k : Int} (h2 : k ≤ ns.length) : (ndF ns k).a ≤ ns.length ∧ (ndF ns k).b ≤ ns.length ∧ (ndF ns k).c ≤ ns.length := by
  by_cases c : 1 ≤ k
  · obtain ⟨i, hi, hn⟩ := nd_at c h2
    obtain ⟨⟨-, a1⟩, ⟨-, b1⟩, ⟨-, c1⟩⟩ := kok i _ hn
    omega
  · rw [ndF_out (by omega)]
    simp [Nd.zero]
theorem sliceF_le (kok : Kok ns) {n : Nd} (h1 : n.a ≤ ns.length) : sliceF (ns ++ t) n (ndF ns n.a) = sliceF ns n (ndF ns n.a) := by
  obtain ⟨k1, k2, -⟩ := kid_le kok h1
  unfold sliceF
  rw [ndF_le k1, ndF_le k2]
theorem pathF_le (kok : Kok ns) {n : Nd} (h1 : n.a ≤ ns.length) (h2 : n.b ≤ ns.length) (h3 : n.c ≤ ns.length) : pathF (ns ++ t) n = pathF ns n := by
  unfold pathF unC iteC binC logicF besideF doubleF
  simp only [foldF_le h1 h2 h3, ndF_le h1, conF_le h1, conF_le h2, isF_le h1, isF_le h2, sliceF_le kok h1]
end
theorem pathF_sort {ns : List Nd} {n : Nd} {s : Int} : pathF ns { n with sort := s } = pathF ns n := rfl
theorem pathF_low {ns : List Nd} {n : Nd} (h : n.op = 1 ∨ n.op = 2) : pathF ns n = .mk := by
  unfold pathF
  have har : arity n.op = 0 := by rcases h with h | h <;> rw [h] <;> decide
  rw [if_pos har]
structure Nrm (ns : List Nd) (S : List Int) : Prop where
  lo : ∀ y, y ∈ S → 1 ≤ y
  hi : ∀ y, y ∈ S → y ≤ ns.length
  at' : ∀ y, y ∈ S → idx ns (ndF ns y) = some (y - 1).toNat
  stay : ∀ y, y ∈ S → pathF ns (ndF ns y) = .mk
  kid : ∀ y, y ∈ S → ∀ k, (k = (ndF ns y).a ∨ k = (ndF ns y).b ∨ k = (ndF ns y).c) → 0 < k → k ∈ S
theorem Nrm.nil (ns : List Nd) : Nrm ns [] := ⟨by simp, by simp, by simp, by simp, by simp⟩
theorem Nrm.more {ns : List Nd} {S : List Int} (h : Nrm ns S) (g : Gok ns) {ns' t : List Nd} (ht : ns' = ns ++ t) : Nrm ns' S := by
  subst ht
  have e : ∀ y, y ∈ S → ndF (ns ++ t) y = ndF ns y := fun y hy => ndF_le (h.hi y hy)
  refine ⟨h.lo, fun y hy => ?_, fun y hy => ?_, fun y hy => ?_, fun y hy => ?_⟩
  · have := h.hi y hy
    simp; omega
  · rw [e y hy]; exact idx_more (h.at' y hy)
  · rw [e y hy]
    obtain ⟨k1, k2, k3⟩ := kid_le g.kok (h.hi y hy)
    rw [pathF_le g.kok k1 k2 k3]
    exact h.stay y hy
  · rw [e y hy]; exact h.kid y hy
theorem mak_nrm {most : Int} {ns : List Nd} {n : Nd} (g : Gok ns) (hf : formedF ns.length n = true) (hs : (sortedF ns n).2 = 0) (h2 : ¬ n.op = 2) {S : List Int} (h : Nrm ns S) (hk : ∀ k, (k = n.a ∨ k = n.b ∨ k = n.c) → 0 < k → k ∈ S) (hp : pathF ns n = .mk) (h0 : (makT most ns n).2.2 = 0) :
    Nrm (makT most ns n).1 (S ++ [(makT most ns n).2.1]) ∧ (ndF (makT most ns n).1 (makT most ns n).2.1).op = n.op := by
  obtain ⟨-, hm⟩ := mak_ok (most := most) g hf hs
  rcases hm with ⟨-, ⟨t, ht, -⟩, l1, l2, hn⟩ | ⟨he, -⟩
  rotate_left
  · rw [he] at h0; cases h0
  have hmm := make_made (most := most) (n := n) g.vok (js := (makT most ns n).1) (l := (makT most ns n).2.1) (e := (makT most ns n).2.2) rfl
  rcases hmm with ⟨-, M, i, hM, hi, -⟩ | ⟨he, -⟩
  rotate_left
  · exact absurd h0 he
  obtain ⟨X, hX⟩ : ∃ X, X = makT most ns n := ⟨_, rfl⟩
  rw [← hX] at ht l1 l2 hn hi hM ⊢
  obtain ⟨p1, p2, p3, p4, p5, p6, -, -⟩ := sorted_parts (ns := ns) h2
  have hs' : (sortedF ns n).1 = { n with sort := (sortedF ns n).1.sort } := by
    unfold sortedF
    by_cases c : n.op = 1
    · rw [if_pos c]
    · rw [if_neg c, if_neg h2]
  have hN := h.more g ht
  have hid : idx X.1 (ndF X.1 X.2.1) = some (X.2.1 - 1).toNat := by
    have h1 := hM.at'
    obtain ⟨j, hj, hnj⟩ := nd_at l1 l2
    have hji : j = i := by omega
    subst hji
    obtain ⟨q1, q2, -⟩ := List.findIdx?_eq_some_iff_getElem.1 h1
    have q2 := of_decide_eq_true q2
    have q3 : X.1[j]? = some M := by rw [List.getElem?_eq_getElem q1, ← q2]
    rw [hnj] at q3
    cases q3
    rw [hi, show ((j : Int) + 1 - 1).toNat = j by omega]
    rw [hi] at h1
    exact h1
  obtain ⟨f1, f2, f3⟩ := formed_kids hf
  refine ⟨⟨fun y hy => ?_, fun y hy => ?_, fun y hy => ?_, fun y hy => ?_, fun y hy k hk' h0 => ?_⟩, by rw [hn]; exact p1⟩
  · rcases List.mem_append.1 hy with hy | hy
    · exact h.lo y hy
    · simp at hy; subst hy; exact l1
  · rcases List.mem_append.1 hy with hy | hy
    · exact hN.hi y hy
    · simp at hy; subst hy; exact l2
  · rcases List.mem_append.1 hy with hy | hy
    · exact hN.at' y hy
    · simp at hy; subst hy; exact hid
  · rcases List.mem_append.1 hy with hy | hy
    · exact hN.stay y hy
    · simp at hy; subst hy
      rw [hn, hs', pathF_sort, ht, pathF_le g.kok f1 f2 f3]
      exact hp
  · rcases List.mem_append.1 hy with hy | hy
    · exact List.mem_append_left _ (hN.kid y hy k hk' h0)
    · simp at hy; subst hy
      rw [hn, p4, p5, p6] at hk'
      exact List.mem_append_left _ (hk k hk' h0)
def srcF (ns : List Nd) (n : Nd) : Ch → Prop
  | .at k => k = n.a ∨ k = n.b ∨ k = n.c ∨ k = (ndF ns n.a).a
  | .again m => (m.op = 39 ∨ m.op = 3) ∧ (m.a = n.a ∨ m.a = n.b ∨ m.a = (ndF ns n.a).a ∨ m.a = (ndF ns n.a).b) ∧ m.b = 0 ∧ m.c = 0
  | .shl x _ => n.op = 20 ∧ (x = n.a ∨ x = n.b)
  | _ => True
theorem logicC_src {ns : List Nd} {n : Nd} {op : Int} {v : Vl} {a b : Int} {c : Ch} (ha : a = n.a ∨ a = n.b) (hb : b = n.a ∨ b = n.b) (h : logicC op v a b = some c) : srcF ns n c := by
  unfold logicC at h
  have h1 : srcF ns n (.at a) := by rcases ha with h | h <;> simp [srcF, h]
  have h2 : srcF ns n (.at b) := by rcases hb with h | h <;> simp [srcF, h]
  have h3 : srcF ns n (.again (nodeO 3 b 0 0 0 0)) := by rcases hb with h | h <;> simp [srcF, h, nodeO]
  have h4 : ∀ v, srcF ns n (.con v) := fun v => trivial
  repeat' split at h
  all_goals first | (cases h; first | exact h1 | exact h2 | exact h3 | exact h4 _) | cases h
theorem logicF_src {ns : List Nd} {n : Nd} {c : Ch} (h : logicF ns n = some c) : srcF ns n c := by
  unfold logicF at h
  split at h
  · cases h
  split at h
  · exact logicC_src (.inl rfl) (.inr rfl) h
  split at h
  · cases h
  split at h
  · exact logicC_src (.inr rfl) (.inl rfl) h
  · cases h
theorem slice_src {ns : List Nd} {n : Nd} : srcF ns n (sliceF ns n (ndF ns n.a)) := by
  unfold sliceF
  repeat' split
  all_goals simp [srcF, nodeO]
theorem beside_src {ns : List Nd} {n : Nd} : srcF ns n (besideF ns n) := by
  unfold besideF doubleF
  repeat' split
  all_goals first | trivial | (simp [srcF]; done) | (simp [srcF]; assumption)
theorem path_src {ns : List Nd} {n : Nd} : srcF ns n (pathF ns n) := by
  unfold pathF
  split
  · trivial
  split
  · unfold unC
    split
    · trivial
    · simp only
      repeat' split
      all_goals first | trivial | exact slice_src | (simp [srcF]; done)
  split
  · unfold iteC
    repeat' split
    all_goals first | trivial | (simp [srcF]; done)
  · unfold binC
    split
    · trivial
    repeat' split
    all_goals first | trivial | (simp [srcF]; done) | (exact logicF_src ‹_›) | exact beside_src
end Go.Proofs.Ytiobohfiaapgeaa
end
section
namespace Go.Proofs.Ytiobohfiaapgeaa
set_option maxRecDepth 100000
set_option maxHeartbeats 2000000
structure Grown (ns : List Nd) (S : List Int) (b : Nat) (x : List Nd × Int × Int) : Prop where
  ex : ∃ T : List Int, T.length ≤ b ∧ Nrm x.1 (S ++ T) ∧ x.2.1 ∈ S ++ T ∧ ∀ y, y ∈ T → ¬ (ndF x.1 y).op = 2
  more : ∃ t, x.1 = ns ++ t
theorem Grown.wide {ns : List Nd} {S : List Int} {b c : Nat} {x : List Nd × Int × Int} (h : Grown ns S b x) (hb : b ≤ c) : Grown ns S c x := by
  obtain ⟨⟨T, h1, h2⟩, h3⟩ := h
  exact ⟨⟨T, Nat.le_trans h1 hb, h2⟩, h3⟩
theorem Grown.made {most : Int} {ns : List Nd} {n : Nd} (g : Gok ns) (hf : formedF ns.length n = true) (hs : (sortedF ns n).2 = 0) (h2 : ¬ n.op = 2) {S : List Int} (h : Nrm ns S) (hk : ∀ k, (k = n.a ∨ k = n.b ∨ k = n.c) → 0 < k → k ∈ S) (hp : pathF ns n = .mk) (h0 : (makT most ns n).2.2 = 0) : Grown ns S 1 (makT most ns n) := by
  obtain ⟨h1, ho⟩ := mak_nrm g hf hs h2 h hk hp h0
  obtain ⟨t, ht, -⟩ := (NV.made g hf hs h2 h0).more
  refine ⟨⟨[(makT most ns n).2.1], by simp, h1, by simp, fun y hy => ?_⟩, t, ht⟩
  simp at hy; subst hy
  rw [ho]; exact h2
theorem norm_nrm {most : Int} : ∀ (f : Nat) {ns : List Nd} {n : Nd} {S : List Int}, Gok ns → formedF ns.length n = true → (sortedF ns n).2 = 0 → ¬ n.op = 2 → Nrm ns S → (∀ k, (k = n.a ∨ k = n.b ∨ k = n.c) → 0 < k → k ∈ S) → (normF most f ns n).2.2 = 0 → Grown ns S (if n.op = 20 then 2 else 1) (normF most f ns n)
  | 0, _, _, _, _, _, _, _, _, _, h => absurd h (by simp [normF])
  | f + 1, ns, n, S, g, hf, hs, h2, hN, hk, h0 => by
    have hb : 1 ≤ (if n.op = 20 then 2 else 1) := by split <;> omega
    by_cases h1 : n.op = 1
    · rw [norm_low (.inl h1)] at h0 ⊢
      exact (Grown.made g hf hs h2 hN hk (pathF_low (.inl h1)) h0).wide hb
    obtain ⟨look0, hA0⟩ := look_any g
    have hfit0 := node_fit g hA0 hf hs h1 h2
    have hgood0 := hfit0.good
    have hpv := path_val g hA0 hf hs h1 h2
    have hsrc := path_src (ns := ns) (n := n)
    have ha : ∀ k, k = n.a ∨ k = n.b ∨ k = n.c ∨ k = (ndF ns n.a).a ∨ k = (ndF ns n.a).b → 0 < k → k ∈ S := fun k h hk0 => by
      have in2 : ∀ k, (k = (ndF ns n.a).a ∨ k = (ndF ns n.a).b) → 0 < k → k ∈ S := fun k h hk0 => by
        by_cases c : 0 < n.a
        · exact hN.kid n.a (hk n.a (.inl rfl) c) k (by rcases h with h | h <;> simp [h]) hk0
        · rw [ndF_out (by omega)] at h
          simp [Nd.zero] at h
          omega
      rcases h with h | h | h | h | h
      · exact hk k (.inl h) hk0
      · exact hk k (.inr (.inl h)) hk0
      · exact hk k (.inr (.inr h)) hk0
      · exact in2 k (.inl h) hk0
      · exact in2 k (.inr h) hk0
    unfold normF at h0 ⊢
    cases hp : pathF ns n with
    | «at» k =>
      simp only [hp] at hpv hsrc ⊢
      have hk1 : 1 ≤ k := hpv.1
      refine ⟨⟨[], by simp, by simpa using hN, ?_, by simp⟩, [], by simp⟩
      rw [List.append_nil]
      refine ha k ?_ hk1
      rcases hsrc with h | h | h | h <;> simp [h]
    | con v =>
      simp only [hp] at h0 hpv ⊢
      change nodeV look0 (valsV look0 ns) n = v at hpv
      rw [nodeV_op h1 h2] at hpv
      have hvo : v.ok = true := by rw [← hpv]; exact hgood0.1
      obtain ⟨c1, c2⟩ := con_formed (ns := ns) hvo
      refine (Grown.made g c1 (by rw [c2]) (by simp [constN]) hN (fun k hk hk0 => ?_) (pathF_low (.inl rfl)) h0).wide hb
      simp [constN] at hk
      omega
    | mk =>
      simp only [hp] at h0 ⊢
      exact (Grown.made g hf hs h2 hN hk hp h0).wide hb
    | again m =>
      simp only [hp] at h0 hpv hsrc ⊢
      obtain ⟨m1, m2, m3, m4, -⟩ := hpv
      obtain ⟨s1, s2, s3, s4⟩ := hsrc
      have G := norm_nrm f g m3 (by rw [m4]) m2 hN (fun k hk hk0 => by
        rcases hk with h | h | h
        · refine ha k ?_ hk0
          rw [h]
          rcases s2 with h | h | h | h <;> simp [h]
        · omega
        · omega) h0
      rw [if_neg (by omega)] at G
      exact G.wide hb
    | shl x v =>
      simp only [hp] at h0 hpv hsrc ⊢
      obtain ⟨v1, v2, v3, x1, x2, x3, -⟩ := hpv
      obtain ⟨s1, s2⟩ := hsrc
      obtain ⟨c1, c2⟩ := con_formed (ns := ns) v1
      by_cases hm0 : (makT most ns (constN v)).2.2 = 0
      · rw [if_pos hm0] at h0 ⊢
        rw [if_pos s1]
        have M := NV.made (n := constN v) g c1 (by rw [c2]) (by simp [constN]) hm0
        rw [c2] at M
        obtain ⟨⟨T1, t1, t2, t3, t4⟩, -⟩ := Grown.made (n := constN v) g c1 (by rw [c2]) (by simp [constN]) hN (fun k hk hk0 => by simp [constN] at hk; omega) (pathF_low (.inl rfl)) hm0
        obtain ⟨X, hX⟩ : ∃ X, X = makT most ns (constN v) := ⟨_, rfl⟩
        rw [← hX] at M h0 t2 t3 t4 ⊢
        obtain ⟨t, ht, hno⟩ := M.more
        have hle : ns.length ≤ X.1.length := by rw [ht]; simp
        have hxs : (ndF X.1 x).sort = v.w := by rw [ht, ndF_more x1 x2]; exact x3
        have hw128 : v.w ≤ 128 := by
          unfold Vl.ok rightF at v1
          rw [if_neg (by omega)] at v1
          simp at v1
          omega
        obtain ⟨u1, u2⟩ := sorted_shl (x := x) (c := X.2.1) x1 (by omega) M.lo M.hi hxs (by rw [M.srt]; rfl) v3 hw128
        have G := norm_nrm f M.gok u1 (by rw [u2]) (by simp [nodeO]) t2 (fun k hk hk0 => by
          simp only [nodeO] at hk
          rcases hk with h | h | h
          · refine List.mem_append_left _ (ha k ?_ hk0)
            rw [h]
            rcases s2 with h | h <;> simp [h]
          · rw [h]; exact t3
          · omega) h0
        rw [if_neg (by simp [nodeO])] at G
        obtain ⟨⟨T2, w1, w2, w3, w4⟩, t', ht'⟩ := G
        refine ⟨⟨T1 ++ T2, by simp; omega, by rw [← List.append_assoc]; exact w2, by rw [← List.append_assoc]; exact w3, fun y hy => ?_⟩, t ++ t', by rw [ht', ht, List.append_assoc]⟩
        rcases List.mem_append.1 hy with h | h
        · have := t4 y h
          rw [ht', ndF_le (t2.hi y (by simp [h]))]
          exact this
        · exact w4 y h
      · rw [if_neg hm0] at h0
        exact absurd h0 hm0
theorem consF_some {ns : List Nd} : ∀ {l : List Int}, (∀ k, k ∈ l → (ndF ns k).op = 1) → ∃ vs, consF ns l = some vs
  | [], _ => ⟨[], rfl⟩
  | k :: l, h => by
    obtain ⟨vs, hv⟩ := consF_some (l := l) fun x hx => h x (by simp [hx])
    unfold consF conF
    rw [if_pos (h k (by simp)), hv]
    exact ⟨_, rfl⟩
theorem fold_some {ns : List Nd} (g : Gok ns) {n : Nd} (hf : formedF ns.length n = true) (hs : (sortedF ns n).2 = 0) (h1 : ¬ n.op = 1) (h2 : ¬ n.op = 2) (hk : ∀ k, k ∈ [n.a, n.b, n.c].take (arity n.op).toNat → (ndF ns k).op = 1) : ∃ v, foldF ns n = some v := by
  obtain ⟨look, hA⟩ := look_any g
  obtain ⟨l, hl⟩ := consF_some hk
  have hv := consF_val (look := look) (fun k v h => con_all g hA h) hl
  have hkl : kidsV (valsV look ns) n = l := by
    rw [hv]
    unfold kidsV
    rw [List.map_take]
    rfl
  have hkk := kids_list hf h1 h2 (valsV look ns) fun k hk h0 => by
    have hkl : k ≤ ns.length := by
      obtain ⟨k1, k2, k3⟩ := formed_kids hf
      rcases hk with rfl | rfl | rfl <;> assumption
    obtain ⟨i, rfl, hi⟩ := nd_at (by omega) hkl
    have K := kid_ok g hA (k := (i : Int) + 1) (by omega) hkl
    exact ⟨_, by rw [show ((i : Int) + 1 - 1).toNat = i by omega]; exact hi, K.ok, K.w⟩
  rw [hkl] at hkk
  have hz : (applyS n.op n.p n.q l).2 = 0 := by
    unfold sortedF at hs
    rw [if_neg h1, if_neg h2] at hs
    simp only at hs
    unfold applyS
    rw [sorts_ok hkk.2, hkk.1, if_pos hs]
  unfold foldF
  rw [hl]
  simp only [hz, if_true]
  exact ⟨_, rfl⟩
theorem norm_con {most : Int} {f : Nat} {ns : List Nd} {n : Nd} (g : Gok ns) (hf : formedF ns.length n = true) (hs : (sortedF ns n).2 = 0) (h2 : ¬ n.op = 2) (hk : ∀ k, (k = n.a ∨ k = n.b ∨ k = n.c) → 0 < k → (ndF ns k).op = 1) (h0 : (normF most f ns n).2.2 = 0) : (ndF (normF most f ns n).1 (normF most f ns n).2.1).op = 1 := by
  cases f with
  | zero => exact absurd h0 (by simp [normF])
  | succ f =>
    have mkc : ∀ v : Vl, v.ok = true → (makT most ns (constN v)).2.2 = 0 → (ndF (makT most ns (constN v)).1 (makT most ns (constN v)).2.1).op = 1 := fun v hv h => by
      obtain ⟨c1, c2⟩ := con_formed (ns := ns) hv
      exact (mak_nrm g c1 (by rw [c2]) (by simp [constN]) (Nrm.nil ns) (fun k hk hk0 => by simp [constN] at hk; omega) (pathF_low (.inl rfl)) h).2
    by_cases h1 : n.op = 1
    · rw [norm_low (.inl h1)] at h0 ⊢
      obtain ⟨-, hm⟩ := mak_ok (most := most) g hf hs
      rcases hm with ⟨-, -, l1, l2, hn⟩ | ⟨he, -⟩
      · rw [hn, (sorted_parts (ns := ns) h2).1]; exact h1
      · rw [he] at h0; cases h0
    obtain ⟨look0, hA0⟩ := look_any g
    have hfit0 := node_fit g hA0 hf hs h1 h2
    have hgood0 := hfit0.good
    have h3 := hfit0.op
    have hpv := path_val g hA0 hf hs h1 h2
    have hkt : ∀ k, k ∈ [n.a, n.b, n.c].take (arity n.op).toNat → k = n.a ∨ k = n.b ∨ k = n.c := fun k hk => by
      have := List.mem_of_mem_take hk
      simpa using this
    have har : arity n.op = 1 ∨ arity n.op = 2 ∨ arity n.op = 3 := by
      have hd : 0 ≤ arity n.op := by
        unfold formedF at hf
        simp at hf
        exact hf.2.1.1
      unfold arity at hd ⊢
      split at hd
      · omega
      · rename_i c
        rw [if_neg c, if_neg (by omega)]
        split
        · simp
        · split <;> simp
    have fold : arity n.op ≤ 2 → ∃ v, foldF ns n = some v := fun h => fold_some g hf hs h1 h2 fun k hk' => by
      refine hk k (hkt k hk') ?_
      rcases har with c | c | c
      · obtain ⟨q1, -⟩ := formed1 hf c
        rw [c] at hk'
        simp at hk'
        omega
      · obtain ⟨q1, -, q3, -⟩ := formed2 hf c
        rw [c] at hk'
        simp at hk'
        rcases hk' with rfl | rfl <;> omega
      · omega
    unfold normF at h0 ⊢
    have hcon : (∃ v, pathF ns n = .con v) ∨ ∃ k, pathF ns n = .at k ∧ (k = n.b ∨ k = n.c) := by
      unfold pathF
      rcases har with c | c | c
      · obtain ⟨v, hv⟩ := fold (by omega)
        rw [if_neg (by omega), if_pos c]
        unfold unC
        rw [hv]
        exact .inl ⟨v, rfl⟩
      · obtain ⟨v, hv⟩ := fold (by omega)
        rw [if_neg (by omega), if_neg (by omega), if_neg (by omega)]
        unfold binC
        rw [hv]
        exact .inl ⟨v, rfl⟩
      · rw [if_neg (by omega), if_neg (by omega), if_pos c]
        obtain ⟨q1, -⟩ := formed3 hf c
        unfold iteC conF
        right
        split
        · exact ⟨_, rfl, .inl rfl⟩
        · rw [if_pos (hk n.a (.inl rfl) (by omega))]
          simp only
          split
          · exact ⟨_, rfl, .inl rfl⟩
          · exact ⟨_, rfl, .inr rfl⟩
    rcases hcon with ⟨v, hv⟩ | ⟨k, hv, hkk⟩
    · simp only [hv] at h0 hpv ⊢
      change nodeV look0 (valsV look0 ns) n = v at hpv
      rw [nodeV_op h1 h2] at hpv
      exact mkc v (by rw [← hpv]; exact hgood0.1) h0
    · simp only [hv] at hpv ⊢
      exact hk k (.inr hkk) (by have := hpv.1; omega)
end Go.Proofs.Ytiobohfiaapgeaa
end
section
namespace Go.Proofs.Ytiobohfiaapgeaa
set_option maxRecDepth 100000
set_option maxHeartbeats 2000000
structure Didn (ns0 ns : List Nd) (d : Int → Int) (pre : List Int) (S : List Int) : Prop where
  nrm : Nrm ns S
  did : ∀ x, x ∈ pre → d x ∈ S
  len : S.length ≤ 2 * pre.length
  vars : ∀ y, y ∈ S → (ndF ns y).op = 2 → y ∈ pre
  cons : (∀ x, x ∈ pre → ¬ (ndF ns0 x).op = 2) → ∀ x, x ∈ pre → (ndF ns (d x)).op = 1
theorem idx_of {ns : List Nd} {n : Nd} (g : Gok ns) {k : Int} (h1 : 1 ≤ k) (h2 : k ≤ ns.length) (hn : n = ndF ns k) (ho : n.op = 2) : idx ns n = some (k - 1).toNat := by
  obtain ⟨i, hi, hni⟩ := nd_at h1 h2
  rw [← hn] at hni
  have hmem : n ∈ ns := List.mem_of_getElem? hni
  cases hx : idx ns n with
  | none => exact absurd hmem (idx_none hx)
  | some j =>
    obtain ⟨q1, q2, -⟩ := List.findIdx?_eq_some_iff_getElem.1 hx
    have q2 := of_decide_eq_true q2
    have q3 : ns[j]? = some n := by rw [List.getElem?_eq_getElem q1, ← q2]
    have e1 := g.uniq i n hni ho
    have e2 := g.uniq j n q3 ho
    rw [e1] at e2
    cases e2
    rw [hi]
    simp
theorem sim_nrm {most L : Int} {f : Nat} {ns0 : List Nd} {id : Int} (g0 : Gok ns0) (h1 : 1 ≤ id) (h2 : id ≤ ns0.length) (hL : most ≤ L) (hf : L + 2 ≤ f) : ∀ (l pre : List Int) (ns : List Nd) (d : Int → Int) (S : List Int), coneT ns0 id = pre ++ l → Did ns0 ns d (fun x => x ∈ pre) → Didn ns0 ns d pre S → (ns.length : Int) ≤ L →
    (simF most f l ns d).2.2 = 0 → ∃ S', Didn ns0 (simF most f l ns d).1 (simF most f l ns d).2.1 (coneT ns0 id) S'
  | [], pre, ns, d, S, hc, _, hn, _, _ => by
    unfold simF
    rw [hc, List.append_nil]
    exact ⟨S, hn⟩
  | k :: l, pre, ns, d, S, hc, hd, hS, hl, hz => by
    have hk : k ∈ coneT ns0 id := by rw [hc]; simp
    obtain ⟨j, rfl, j1, j2⟩ := cone_mem hk
    have hrise := cone_rises ns0 id
    rw [hc] at hrise
    have k1 : (1 : Int) ≤ (j : Int) := by omega
    have k2 : (j : Int) ≤ ns0.length := by omega
    obtain ⟨i, hi, hni⟩ := nd_at k1 k2
    have hpre : ∀ y, (y = (ndF ns0 j).a ∨ y = (ndF ns0 j).b ∨ y = (ndF ns0 j).c) → 0 < y → y ∈ pre := fun y hy h0 => by
      have := cone_kid g0.kok h1 h2 (j := i) (n := ndF ns0 j) (by rw [← hi]; exact hk) hni hy h0
      rw [← hi] at this
      refine mem_pre hrise ?_ this.2
      rw [← hc]; exact this.1
    have N := next_ok g0 hd k1 k2 hpre
    obtain ⟨a0, b0, c0⟩ : 0 ≤ (ndF ns0 j).a ∧ 0 ≤ (ndF ns0 j).b ∧ 0 ≤ (ndF ns0 j).c := by
      obtain ⟨⟨a, -⟩, ⟨b, -⟩, ⟨c, -⟩⟩ := g0.kok i _ hni
      exact ⟨a, b, c⟩
    obtain ⟨n, hn⟩ : ∃ n, n = ({ ndF ns j with a := d (ndF ns j).a, b := d (ndF ns j).b, c := d (ndF ns j).c } : Nd) := ⟨_, rfl⟩
    obtain ⟨r1, r2⟩ := norm_next (most := most) (f := f) g0 hd k1 k2 N hn (by omega)
    have hlen := norm_len hL f (n := n) hl
    have nf := N.form
    have nsr := N.srt
    rw [← hn] at nf nsr
    have hop : n.op = (ndF ns0 j).op := by rw [hn, ← N.nd]
    -- its kids
    have hkid : ∀ z, (z = n.a ∨ z = n.b ∨ z = n.c) → 0 < z → ∃ y, y ∈ pre ∧ z = d y := fun z hz hz0 => by
      have h3 : ∃ y, (y = (ndF ns0 j).a ∨ y = (ndF ns0 j).b ∨ y = (ndF ns0 j).c) ∧ z = d y := by
        rw [hn, N.nd] at hz
        rcases hz with h | h | h
        · exact ⟨_, .inl rfl, h⟩
        · exact ⟨_, .inr (.inl rfl), h⟩
        · exact ⟨_, .inr (.inr rfl), h⟩
      obtain ⟨y, hy, hzy⟩ := h3
      refine ⟨y, hpre y hy ?_, hzy⟩
      by_cases c : 0 < y
      · exact c
      · rw [hd.zero y (by omega)] at hzy
        omega
    unfold simF at hz ⊢
    rw [← hn] at hz ⊢
    by_cases h0 : (normF most f ns n).2.2 = 0
    rotate_left
    · rw [if_neg h0] at hz; exact absurd hz h0
    rw [if_pos h0] at hz ⊢
    have D := r2 h0
    refine sim_nrm g0 h1 h2 hL hf l (pre ++ [(j : Int)]) _ _ ?_ (by rw [hc]; simp) ⟨D.more, D.gok, D.zero, fun x hx => D.did x (by simpa using hx)⟩ ?_ hlen hz
    · exact if n.op = 2 then S ++ [(j : Int)] else S ++ Classical.choose (show ∃ T : List Int, (n.op = 2 ∨ (T.length ≤ 2 ∧ Nrm (normF most f ns n).1 (S ++ T) ∧ (normF most f ns n).2.1 ∈ S ++ T ∧ ∀ y, y ∈ T → ¬ (ndF (normF most f ns n).1 y).op = 2)) from by
        by_cases c2 : n.op = 2
        · exact ⟨[], .inl c2⟩
        · obtain ⟨⟨T, t1, t2, t3, t4⟩, -⟩ := norm_nrm f hd.gok nf (by rw [nsr]) c2 hS.nrm (fun z hz hz0 => by
            obtain ⟨y, hy, rfl⟩ := hkid z hz hz0
            exact hS.did y hy) h0
          exact ⟨T, .inr ⟨by split at t1 <;> omega, t2, t3, t4⟩⟩)
    · by_cases c2 : n.op = 2
      · rw [if_pos c2]
        have hnn : n = ndF ns j := by rw [hn]; exact N.low (.inr (by rw [hn] at c2; exact c2))
        have hjl : (j : Int) ≤ ns.length := by
          obtain ⟨t, ht, -⟩ := hd.more
          rw [ht]; simp; omega
        have hix := idx_of hd.gok k1 hjl hnn c2
        obtain ⟨f', rfl⟩ : ∃ f', f = f' + 1 := ⟨f - 1, by omega⟩
        have hmake : normF most (f' + 1) ns n = (ns, (j : Int), 0) := by
          rw [norm_low (.inr c2)]
          unfold makT
          rw [if_neg (by rw [nf]; simp), if_neg (by rw [nsr]; simp), nsr, hix]
          simp only
          rw [show (((j : Int) - 1).toNat : Int) + 1 = j by omega]
        rw [hmake]
        simp only
        refine ⟨⟨fun y hy => ?_, fun y hy => ?_, fun y hy => ?_, fun y hy => ?_, fun y hy z hz hz0 => ?_⟩, fun x hx => ?_, by have := hS.len; simp; omega, fun y hy hy2 => ?_, fun hv => absurd (hop ▸ c2) (hv j (by simp))⟩
        · rcases List.mem_append.1 hy with h | h
          · exact hS.nrm.lo y h
          · simp at h; subst h; exact k1
        · rcases List.mem_append.1 hy with h | h
          · exact hS.nrm.hi y h
          · simp at h; subst h; exact hjl
        · rcases List.mem_append.1 hy with h | h
          · exact hS.nrm.at' y h
          · simp at h; subst h; rw [← hnn]; exact hix
        · rcases List.mem_append.1 hy with h | h
          · exact hS.nrm.stay y h
          · simp at h; subst h; rw [← hnn]; exact pathF_low (.inr c2)
        · rcases List.mem_append.1 hy with h | h
          · exact List.mem_append_left _ (hS.nrm.kid y h z hz hz0)
          · simp at h; subst h; rw [← hnn] at hz
            obtain ⟨x, hx, rfl⟩ := hkid z hz hz0
            exact List.mem_append_left _ (hS.did x hx)
        · by_cases c : x = (j : Int)
          · simp [c]
          · rw [if_neg c]
            rcases List.mem_append.1 hx with h | h
            · exact List.mem_append_left _ (hS.did x h)
            · simp at h; exact absurd h c
        · rcases List.mem_append.1 hy with h | h
          · exact List.mem_append_left _ (hS.vars y h hy2)
          · exact List.mem_append_right _ h
      · rw [if_neg c2]
        generalize hT : Classical.choose _ = T
        have hsp := Classical.choose_spec (show ∃ T : List Int, (n.op = 2 ∨ (T.length ≤ 2 ∧ Nrm (normF most f ns n).1 (S ++ T) ∧ (normF most f ns n).2.1 ∈ S ++ T ∧ ∀ y, y ∈ T → ¬ (ndF (normF most f ns n).1 y).op = 2)) from by
          by_cases c2 : n.op = 2
          · exact ⟨[], .inl c2⟩
          · obtain ⟨⟨T, t1, t2, t3, t4⟩, -⟩ := norm_nrm f hd.gok nf (by rw [nsr]) c2 hS.nrm (fun z hz hz0 => by
              obtain ⟨y, hy, rfl⟩ := hkid z hz hz0
              exact hS.did y hy) h0
            exact ⟨T, .inr ⟨by split at t1 <;> omega, t2, t3, t4⟩⟩)
        rw [hT] at hsp
        obtain ⟨t1, t2, t3, t4⟩ := hsp.resolve_left c2
        obtain ⟨-, t, ht⟩ := norm_nrm f hd.gok nf (by rw [nsr]) c2 hS.nrm (fun z hz hz0 => by
              obtain ⟨y, hy, rfl⟩ := hkid z hz hz0
              exact hS.did y hy) h0
        refine ⟨t2, fun x hx => ?_, by have := hS.len; simp; omega, fun y hy hy2 => ?_, fun hv x hx => ?_⟩
        · by_cases c : x = (j : Int)
          · rw [if_pos c]; exact t3
          · rw [if_neg c]
            rcases List.mem_append.1 hx with h | h
            · exact List.mem_append_left _ (hS.did x h)
            · simp at h; exact absurd h c
        · rcases List.mem_append.1 hy with h | h
          · rw [ht, ndF_le (hS.nrm.hi y h)] at hy2
            exact List.mem_append_left _ (hS.vars y h hy2)
          · exact absurd hy2 (t4 y h)
        · have hpc := hS.cons fun x hx => hv x (by simp [hx])
          by_cases c : x = (j : Int)
          · rw [if_pos c]
            refine norm_con hd.gok nf (by rw [nsr]) c2 (fun z hz hz0 => ?_) h0
            obtain ⟨y, hy, rfl⟩ := hkid z hz hz0
            exact hpc y hy
          · rw [if_neg c]
            rcases List.mem_append.1 hx with h | h
            · rw [ht, ndF_le (hS.nrm.hi _ (hS.did x h))]
              exact hpc x h
            · simp at h; exact absurd h c
structure Few (ns : List Nd) (id : Int) (x : List Nd × Int × Int) (S : List Int) : Prop where
  nrm : Nrm x.1 S
  did : x.2.1 ∈ S
  len : S.length ≤ 2 * (coneT ns id).length
  vars : ∀ y, y ∈ S → (ndF x.1 y).op = 2 → y ∈ coneT ns id
  cons : (∀ y, y ∈ coneT ns id → ¬ (ndF ns y).op = 2) → (ndF x.1 x.2.1).op = 1
theorem simT_few {most L : Int} {f : Nat} {ns : List Nd} {id : Int} (g : Gok ns) (h1 : 1 ≤ id) (h2 : id ≤ ns.length) (hL : most ≤ L) (hl : (ns.length : Int) ≤ L) (hf : L + 2 ≤ f) (h0 : (simT most f ns id).2.2 = 0) : ∃ S, Few ns id (simT most f ns id) S := by
  have D0 : Did ns ns (fun _ => 0) (fun x => x ∈ ([] : List Int)) := ⟨⟨[], by simp, by simp⟩, g, fun _ _ => rfl, fun x hx => by cases hx⟩
  have N0 : Didn ns ns (fun _ => 0) [] [] := ⟨Nrm.nil ns, by simp, by simp, by simp, by simp⟩
  have hs := sim_nrm (most := most) g h1 h2 hL hf (coneT ns id) [] ns (fun _ => 0) [] (by simp) D0 N0 hl
  unfold simT at h0 ⊢
  rw [if_neg (by omega)] at h0 ⊢
  by_cases hz : (simF most f (coneT ns id) ns fun _ => 0).2.2 = 0
  · rw [if_pos hz]
    obtain ⟨S, hS⟩ := hs hz
    have hse := cone_self g.kok h1 h2
    exact ⟨S, hS.nrm, hS.did id hse, hS.len, hS.vars, fun hv => hS.cons hv id hse⟩
  · rw [if_neg hz] at h0
    exact absurd h0 hz
theorem cone_in_nrm {ns : List Nd} {S : List Int} (kok : Kok ns) (h : Nrm ns S) {s : Int} (hs : s ∈ S) {x : Int} (hx : x ∈ coneT ns s) : x ∈ S := by
  have hlo := h.lo s hs
  have hhi := h.hi s hs
  have key : ∀ N : Nat, ∀ n : Nat, n ≤ N → ((n : Int) ∈ S) → ∀ j : Nat, 1 ≤ j → cP ns n j = true → (j : Int) ∈ S := by
    intro N
    induction N with
    | zero =>
      intro n hn hnS
      have := h.lo _ hnS
      omega
    | succ N ih =>
      intro n hn hnS j hj hc
      have h1 := h.lo _ hnS
      have h2 := h.hi _ hnS
      obtain ⟨i, hi, hni⟩ := nd_at (ns := ns) (k := (n : Int)) h1 h2
      obtain ⟨⟨a0, a1⟩, ⟨b0, b1⟩, ⟨c0, c1⟩⟩ := kok i _ hni
      obtain rfl : n = i + 1 := by omega
      rw [cP_succ hni (by omega) (by omega) (by omega)] at hc
      simp only [Bool.or_eq_true, decide_eq_true_eq] at hc
      have go : ∀ k : Int, (k = (ndF ns ((i + 1 : Nat) : Int)).a ∨ k = (ndF ns ((i + 1 : Nat) : Int)).b ∨ k = (ndF ns ((i + 1 : Nat) : Int)).c) → 0 ≤ k → k ≤ i → cP ns k.toNat j = true → (j : Int) ∈ S := fun k hk hk0 hki hcc => by
        by_cases c : 0 < k
        · have hkS := h.kid _ hnS k hk c
          exact ih k.toNat (by omega) (by rw [show (k.toNat : Int) = k by omega]; exact hkS) j hj hcc
        · rw [show k.toNat = 0 by omega, cP_zero] at hcc
          simp at hcc
          omega
      rcases hc with hc | hc | hc | hc
      · rw [hc]; exact hnS
      · exact go _ (.inl rfl) a0 a1 hc
      · exact go _ (.inr (.inl rfl)) b0 b1 hc
      · exact go _ (.inr (.inr rfl)) c0 c1 hc
  obtain ⟨j, rfl, j1, j2⟩ := cone_mem hx
  have := (mem_cone kok (by omega) hhi j1).1 hx
  exact key s.toNat s.toNat (Nat.le_refl _) (by rw [show (s.toNat : Int) = s by omega]; exact hs) j j1 this
theorem sim_fix {most : Int} {f : Nat} {ns : List Nd} {S : List Int} (g : Gok ns) (h : Nrm ns S) {s : Int} (hs : s ∈ S) : ∀ (l pre : List Int) (d : Int → Int), coneT ns s = pre ++ l → (∀ x, x ∈ pre → d x = x) → (∀ x, x ≤ 0 → d x = 0) →
    ∃ d', simF most (f + 1) l ns d = (ns, d', 0) ∧ ∀ x, x ∈ coneT ns s → d' x = x
  | [], pre, d, hc, hd, _ => by
    unfold simF
    exact ⟨d, rfl, by rw [hc, List.append_nil]; exact hd⟩
  | k :: l, pre, d, hc, hd, hz => by
    have hk : k ∈ coneT ns s := by rw [hc]; simp
    have hkS := cone_in_nrm g.kok h hs hk
    have hlo := h.lo k hkS
    have hhi := h.hi k hkS
    have hslo := h.lo s hs
    have hshi := h.hi s hs
    obtain ⟨i, hi, hni⟩ := nd_at hlo hhi
    obtain ⟨⟨a0, a1⟩, ⟨b0, b1⟩, ⟨c0, c1⟩⟩ := g.kok i _ hni
    have hrise := cone_rises ns s
    rw [hc] at hrise
    have hdk : ∀ y, (y = (ndF ns k).a ∨ y = (ndF ns k).b ∨ y = (ndF ns k).c) → 0 ≤ y → d y = y := fun y hy h0 => by
      by_cases c : 0 < y
      · have := cone_kid g.kok hslo hshi (j := i) (n := ndF ns k) (by rw [← hi]; exact hk) hni hy c
        rw [← hi] at this
        exact hd y (mem_pre hrise (by rw [← hc]; exact this.1) this.2)
      · rw [hz y (by omega)]; omega
    have hn : ({ ndF ns k with a := d (ndF ns k).a, b := d (ndF ns k).b, c := d (ndF ns k).c } : Nd) = ndF ns k := by
      rw [hdk _ (.inl rfl) a0, hdk _ (.inr (.inl rfl)) b0, hdk _ (.inr (.inr rfl)) c0]
    have hmem : ndF ns k ∈ ns := List.mem_of_getElem? hni
    have hnorm : normF most (f + 1) ns (ndF ns k) = (ns, k, 0) := by
      unfold normF
      rw [h.stay k hkS]
      simp only
      unfold makT
      rw [if_neg (by rw [g.form _ hmem]; simp), if_neg (by rw [g.srt _ hmem]; simp), g.srt _ hmem, h.at' k hkS]
      simp only
      rw [show ((k - 1).toNat : Int) + 1 = k by omega]
    unfold simF
    rw [hn, hnorm]
    simp only [if_true]
    exact sim_fix g h hs l (pre ++ [k]) _ (by rw [hc]; simp) (fun x hx => by
      by_cases c : x = k
      · rw [if_pos c]; exact c.symm
      · rw [if_neg c]
        rcases List.mem_append.1 hx with h | h
        · exact hd x h
        · simp at h; exact absurd h c) (fun x hx => by
      rw [if_neg (by omega)]
      exact hz x hx)
theorem simT_fix {most : Int} {f : Nat} {ns : List Nd} {S : List Int} (g : Gok ns) (h : Nrm ns S) {s : Int} (hs : s ∈ S) : simT most (f + 1) ns s = (ns, s, 0) := by
  have hlo := h.lo s hs
  have hhi := h.hi s hs
  obtain ⟨d', h1, h2⟩ := sim_fix (most := most) (f := f) g h hs (coneT ns s) [] (fun _ => 0) (by simp) (by simp) (fun _ _ => rfl)
  unfold simT
  rw [if_neg (by omega), h1]
  simp only [if_true]
  rw [h2 s (cone_self g.kok hlo hhi)]
theorem sub_len : ∀ {l S : List Int}, l.Pairwise (· < ·) → (∀ x, x ∈ l → x ∈ S) → l.length ≤ S.length
  | [], _, _, _ => by simp
  | x :: l, S, hp, hs => by
    obtain ⟨h1, h2⟩ := List.pairwise_cons.1 hp
    have hx := hs x (by simp)
    have := sub_len (l := l) (S := S.erase x) h2 fun y hy => (List.mem_erase_of_ne (by have := h1 y hy; omega)).2 (hs y (by simp [hy]))
    have hle := List.length_erase_of_mem hx
    have : 0 < S.length := List.length_pos_of_mem hx
    simp
    omega
theorem cone_few {ns : List Nd} {S : List Int} (kok : Kok ns) (h : Nrm ns S) {s : Int} (hs : s ∈ S) : (coneT ns s).length ≤ S.length := sub_len (cone_rises ns s) fun _ hx => cone_in_nrm kok h hs hx
end Go.Proofs.Ytiobohfiaapgeaa
end
section
namespace Go.Proofs.Ytiobohfiaapgeaa
set_option maxRecDepth 100000
set_option maxHeartbeats 4000000
theorem markT_more {ns t : List Nd} : ∀ (n : Nat) (v : List Bool), n ≤ ns.length → markT (ns ++ t) n v = markT ns n v
  | 0, v, _ => rfl
  | n + 1, v, h => by
    have e : (ns ++ t).getD n Nd.zero = ns.getD n Nd.zero := by
      rw [List.getD_eq_getElem?_getD, List.getD_eq_getElem?_getD, List.getElem?_append_left (by omega)]
    have e1 : mark1T (ns ++ t) n v = mark1T ns n v := by unfold mark1T; rw [e]
    rw [markT, markT, e1, markT_more n _ (by omega)]
theorem coneT_more {ns t : List Nd} {a : Int} (h1 : 1 ≤ a) (h2 : a ≤ ns.length) : coneT (ns ++ t) a = coneT ns a := by
  unfold coneT coneM
  rw [if_neg (by simp; omega), if_neg (by omega), markT_more _ _ (by omega)]
def ownT (ns : List Nd) (id : Int) : List Int := (coneT ns id).filter fun x => decide ((ndF ns x).op = 2)
theorem vars_loop7 {H0 H : AHeap} {g : Nat} {most : Int} {ns : List Nd} {F : List Nat} (G : GT H0 g most ns F) (k0 : Keeps H0 H) {s : AV} {xs : List Int} (hs : ∀ H', RI H' s xs) (hx : xs.length ≤ 5000) {e : Env} {r : Rn} (hL : loopL Try.prog KT R Zc1 e H = r)
    (e0 : e 0 = some (.ptr g 0)) (e5 : e 5 = some .nils) (e6 : e 6 = some s) (e7 : e 7 = some (.int .i64 0)) :
    ∃ y e' H', r = some (y, e', H') ∧ (y = .exit 0 ∧ Keeps H0 H' ∧ ∃ w, e' 5 = some w ∧ OutT H0 H' w (xs.filter fun x => decide ((ndF ns x).op = 2))) ∧ ∀ t, t ∉ defs Zc1 → e' t = e t := by
  have hlen := (hs H).len
  refine loop_count Zc1.eq_1 hL xs.length (fun i e1 H1 => e1 7 = some (.int .i64 i) ∧ Keeps H0 H1 ∧ ∃ w, e1 5 = some w ∧ OutT H0 H1 w ((xs.take i).filter fun x => decide ((ndF ns x).op = 2))) _ 0 (by omega) ⟨e7, k0, .nils, e5, ⟨by simpa using RI.nils, by simp, by simp⟩⟩ ?_ ?_
  · rintro i f H1 hf - hi ⟨f7, k, w, f5, hw⟩
    have w1 : IntKind.i64.wrap ((i : Int) + 1) = (i : Int) + 1 := i64w (by omega) (by omega)
    have c1 : (i : Int) < xs.length := by omega
    obtain ⟨a1, a2⟩ := loadi_of (hs H1) hi
    have ht : xs.take (i + 1) = xs.take i ++ [xs.getD i 0] := by rw [List.take_add_one]; simp [List.getD_eq_getElem?_getD, hi]
    have hll : ((xs.take i).filter fun x => decide ((ndF ns x).op = 2)).length ≤ 1000000 := by
      have h1 := List.length_filter_le (fun x => decide ((ndF ns x).op = 2)) (xs.take i)
      simp at h1 ⊢
      omega
    rw [ht, List.filter_append]
    obtain ⟨x, hx⟩ : ∃ x, x = xs.getD i 0 := ⟨_, rfl⟩
    rw [← hx] at a2 ⊢
    have hnode : R Zo [.ptr g 0, .int .i64 x] H1 = some (.tup [.agg (ndF ns x).cs, .bool (nodeS ns x).isSome], H1) := by
      obtain ⟨o1, o2, o3, t, -⟩ := G.keeps k
      exact node_run t
    obtain ⟨n, hn⟩ : ∃ n, n = ndF ns x := ⟨_, rfl⟩
    have hfil : [x].filter (fun x => decide ((ndF ns x).op = 2)) = if n.op = 2 then [x] else [] := by
      rw [hn]
      by_cases c : (ndF ns x).op = 2 <;> simp [c]
    rw [hfil]
    rw [← hn] at hnode
    simp only [Nd.parts'] at hnode
    obtain ⟨HX, hX⟩ : ∃ HX, HX = (H1.new (.cells [.int .i64 0, .int .i64 0, .int .i64 0, .int .i64 0, .int .i64 0, .int .i64 0, .int .i64 0, .int .i64 0, u 0#64, u 0#64, .str .empty])).set H1.size (.cells [.int .i64 n.op, .int .i64 n.sort, .int .i64 n.a, .int .i64 n.b, .int .i64 n.c, .int .i64 n.p, .int .i64 n.q, .int .i64 n.vw, u n.vl, u n.vh, .str n.name]) := ⟨_, rfl⟩
    have kX : Keeps H1 HX := by rw [hX]; ((repeat (first | exact Keeps.refl _ | assumption | refine Keeps.new' ?_ _ | refine Keeps.set ?_ ?_ _)) <;> (first | assumption | (simp; done) | (simp; omega)))
    have oX : HX.obj H1.size = .cells [.int .i64 n.op, .int .i64 n.sort, .int .i64 n.a, .int .i64 n.b, .int .i64 n.c, .int .i64 n.p, .int .i64 n.q, .int .i64 n.vw, u n.vl, u n.vh, .str n.name] := by rw [hX]; simp
    have zX : HX.size = H1.size + 1 := by rw [hX]; simp
    have lX : H1.size < HX.size := by omega
    have a2X := a2 HX kX
    replace a2 := a2 H1 (Keeps.refl _)
    by_cases c2 : n.op = 2
    · simp (maxDischargeDepth := 40) [hf, e0, e6, f7, f5, hlen, c1, a1, a2, a2X, hnode, ← hX, oX, eq_true c2]
      generalize hA : appU _ _ _ _ = q
      obtain ⟨w', H3, rfl, h3, k3⟩ := (hw.keep kX).push (k.trans kX) hll hA
      simp (maxDischargeDepth := 40) [f7, w1]
      exact ⟨k3, h3⟩
    · simp (maxDischargeDepth := 40) [hf, e0, e6, f7, f5, hlen, c1, a1, a2, hnode, ← hX, oX, eq_false c2, w1]
      exact ⟨k.trans kX, hw.keep kX⟩
  · rintro f H1 hf ⟨f7, k, w, f5, hw⟩
    rw [List.take_of_length_le (Nat.le_refl _)] at hw
    simp [hf, e6, f7, hlen]
    exact ⟨k, w, f5, hw⟩
theorem back_own {H H' : AHeap} {w : AV} {l : List Int} (k : Keeps H H') (h : OutT H H' w l) : ∃ w2 H2, back [] H w H' = (w2, H2) ∧ Keeps H H2 ∧ RI H2 w2 l := by
  obtain ⟨rd, gr, new⟩ := h
  cases w <;> first | (exact gr.elim) | skip
  · have e : l = [] := by
      have := rd.len
      simp [sliceLen] at this
      cases l with
      | nil => rfl
      | cons a l => simp at this
    subst e
    rw [back_k (by simp [closed]) k]
    exact ⟨_, _, rfl, Keeps.refl H, RI.nils⟩
  · rename_i o off sz m full
    have ho : ¬ o < H.size := by have := new o (by simp); omega
    have hb : back [] H (.row o off sz m full) H' = (.row o off sz m full, H') := by
      unfold back
      rw [if_neg]
      rintro ⟨h, -⟩
      simp [frz, ho] at h
    rw [hb]
    exact ⟨_, _, rfl, k, rd⟩
theorem vars7_run {H : AHeap} {g : Nat} {most : Int} {ns : List Nd} {F : List Nat} (G : GT H g most ns F) {id : Int} {r : Option (AV × AHeap)} (hr : R Zck [.ptr g 0, .int .i64 id] H = r) :
    ∃ w H', r = some (w, H') ∧ Keeps H H' ∧ RI H' w (ownT ns id) := by
  have hlim := G.lim
  obtain ⟨v, hv, hvr⟩ := cone_run2 G (id := id)
  have hcl : (coneT ns id).length ≤ 5000 := by
    have h1 := cone_rises ns id
    have h2 : ∀ x, x ∈ coneT ns id → x ∈ (List.range ns.length).map fun i : Nat => (i : Int) + 1 := fun x hx => by
      obtain ⟨j, rfl, j1, j2⟩ := cone_mem hx
      simp only [List.mem_map, List.mem_range]
      exact ⟨j - 1, by omega, by omega⟩
    have h3 := sub_len h1 h2
    simp at h3
    omega
  rw [Zg2] at hr
  simp (maxDischargeDepth := 40) [Zfx, hv] at hr
  generalize hL : loopL _ _ _ _ _ _ = q at hr
  obtain ⟨y, e1, H1, rfl, ⟨rfl, k1, w, f5, hw⟩, fr⟩ := vars_loop7 G (Keeps.refl H) hvr hcl hL (by simp) (by simp) (by simp) (by simp)
  simp (maxDischargeDepth := 40) [f5] at hr
  obtain ⟨w2, H2, q1, q2, q3⟩ := back_own k1 hw
  rw [q1] at hr
  exact ⟨w2, H2, hr.symm, q2, q3⟩
theorem in_loop {H : AHeap} {s1 s2 : AV} {own now : List Int} (h1 : RI H s1 own) (h2 : RI H s2 now) (l1 : own.length ≤ 1000000) {k : Nat} (hk : k < now.length) {e : Env} {r : Rn} (hL : loopL Try.prog KT R Zb0 e H = r)
    (e15 : e 15 = some s1) (e16 : e 16 = some s2) (e17 : e 17 = some (.int .i64 k)) (e18 : e 18 = some (.bool false)) (e19 : e 19 = some (.int .i64 0)) :
    ∃ y e' H', r = some (y, e', H') ∧ (y = .exit 2 ∧ H' = H ∧ e' 18 = some (.bool (decide (now.getD k 0 ∈ own)))) ∧ ∀ t, t ∉ defs Zb0 → e' t = e t := by
  have hlen := h1.len
  obtain ⟨b1, b2⟩ := loadi_of h2 hk
  replace b2 := b2 H (Keeps.refl _)
  obtain ⟨x, hx⟩ : ∃ x, x = now.getD k 0 := ⟨_, rfl⟩
  rw [← hx] at b2 ⊢
  refine loop_count Zb0.eq_1 hL own.length (fun j e1 H1 => e1 19 = some (.int .i64 j) ∧ H1 = H ∧ e1 18 = some (.bool (decide (x ∈ own.take j)))) _ 0 (by omega) ⟨e19, rfl, by simpa using e18⟩ ?_ ?_
  · rintro j f H1 hf - hj ⟨f19, rfl, f18⟩
    have w1 : IntKind.i64.wrap ((j : Int) + 1) = (j : Int) + 1 := i64w (by omega) (by omega)
    have c1 : (j : Int) < own.length := by omega
    obtain ⟨a1, a2⟩ := loadi_of h1 hj
    replace a2 := a2 H1 (Keeps.refl _)
    have ht : own.take (j + 1) = own.take j ++ [own.getD j 0] := by rw [List.take_add_one]; simp [List.getD_eq_getElem?_getD, hj]
    have hm : (x ∈ own.take (j + 1)) ↔ (x ∈ own.take j ∨ own.getD j 0 = x) := by
      rw [ht, List.mem_append, List.mem_singleton]
      constructor
      · rintro (h | h)
        · exact .inl h
        · exact .inr h.symm
      · rintro (h | h)
        · exact .inl h
        · exact .inr h.symm
    obtain ⟨z, hz⟩ : ∃ z, z = own.getD j 0 := ⟨_, rfl⟩
    rw [← hz] at a2 hm
    obtain ⟨b, hb⟩ : ∃ b, b = decide (x ∈ own.take j) := ⟨_, rfl⟩
    obtain ⟨c, hc⟩ : ∃ c, c = decide (x ∈ own.take (j + 1)) := ⟨_, rfl⟩
    have hbc : c = (b || decide (z = x)) := by
      rw [hb, hc, Bool.eq_iff_iff]
      simp [hm]
    rw [← hc, hbc]
    rw [← hb] at f18
    cases b with
    | true => simp (maxDischargeDepth := 40) [hf, e15, f18, f19, hlen, c1, w1]
    | false =>
      by_cases cz : z = x
      · simp (maxDischargeDepth := 40) [hf, e15, e16, e17, f18, f19, hlen, c1, a1, a2, b1, b2, w1, eq_true cz]
      · simp (maxDischargeDepth := 40) [hf, e15, e16, e17, f18, f19, hlen, c1, a1, a2, b1, b2, w1, eq_false cz]
  · rintro f H1 hf ⟨f19, rfl, f18⟩
    rw [List.take_of_length_le (Nat.le_refl _)] at f18
    simp [hf, e15, f19, hlen, f18]
theorem sub_loop {H : AHeap} {s1 s2 : AV} {own now : List Int} (h1 : RI H s1 own) (h2 : RI H s2 now) (l1 : own.length ≤ 1000000) (l2 : now.length ≤ 1000000) (hin : ∀ x, x ∈ now → x ∈ own) {e : Env} {r : Rn} (hL : loopL Try.prog KT R Zb1 e H = r)
    (e15 : e 15 = some s1) (e16 : e 16 = some s2) (e17 : e 17 = some (.int .i64 0)) :
    ∃ y e' H', r = some (y, e', H') ∧ (y = .exit 0 ∧ H' = H) ∧ ∀ t, t ∉ defs Zb1 → e' t = e t := by
  have hlen := h2.len
  refine loop_count Zb1.eq_1 hL now.length (fun j e1 H1 => e1 17 = some (.int .i64 j) ∧ H1 = H) _ 0 (by omega) ⟨e17, rfl⟩ ?_ ?_
  · rintro j f H1 hf - hj ⟨f17, rfl⟩
    have w1 : IntKind.i64.wrap ((j : Int) + 1) = (j : Int) + 1 := i64w (by omega) (by omega)
    have c1 : (j : Int) < now.length := by omega
    have hd : decide (now.getD j 0 ∈ own) = true := decide_eq_true (hin _ (by rw [List.getD_eq_getElem?_getD, List.getElem?_eq_getElem hj]; exact List.getElem_mem hj))
    simp (maxDischargeDepth := 40) [hf, e16, f17, hlen, c1]
    generalize hL : loopL _ _ _ _ _ _ = q
    obtain ⟨y, e2, H2, rfl, ⟨rfl, rfl, g18⟩, fr⟩ := in_loop h1 h2 l1 hj hL (by simp [hf, e15]) (by simp [hf, e16]) (by simp [f17]) (by simp) (by simp)
    rw [hd] at g18
    simp (maxDischargeDepth := 40) [fr, g18, f17, w1]
  · rintro f H1 hf ⟨f17, rfl⟩
    simp [hf, e16, f17, hlen]
end Go.Proofs.Ytiobohfiaapgeaa
end
section
namespace Go.Proofs.Ytiobohfiaapgeaa
set_option maxRecDepth 100000
set_option maxHeartbeats 4000000
section
variable {H1 : AHeap} {g : Nat} {most : Int} {ns : List Nd} {F : List Nat}
theorem node_at (G : GT H1 g most ns F) (id : Int) : R Zo [.ptr g 0, .int .i64 id] H1 = some (.tup [.agg (ndF ns id).cs, .bool (nodeS ns id).isSome], H1) := by
  obtain ⟨o1, o2, o3, t, -⟩ := G
  exact node_run t
theorem simplify_none (G : GT H1 g most ns F) : R Zz [.ptr g 0, .int .i64 0] H1 = some (.tup [.int .i64 0, .int .i64 70], H1) := by
  have hn := node_at G 0
  have hs : nodeS ns 0 = none := by unfold nodeS; rw [if_pos (by omega)]
  rw [hs] at hn
  rw [Zfi]
  obtain ⟨x, hx⟩ : ∃ x, x = ndF ns 0 := ⟨_, rfl⟩
  rw [← hx] at hn
  simp only [Nd.parts', Option.isSome_none] at hn
  simp (maxDischargeDepth := 40) [Zdo, hn]
theorem weight_any (G : GT H1 g most ns F) (id : Int) : ∃ a b, R Zcj [.ptr g 0, .int .i64 id] H1 = some (.tup [.int .i64 a, .int .i64 b], H1) := by
  by_cases c : 1 ≤ id ∧ id ≤ ns.length
  · exact ⟨_, _, weight_run G c.1 c.2⟩
  · have hn := node_at G id
    have hs : nodeS ns id = none := by unfold nodeS; rw [if_pos (by omega)]
    rw [hs] at hn
    obtain ⟨x, hx⟩ : ∃ x, x = ndF ns id := ⟨_, rfl⟩
    rw [← hx] at hn
    simp only [Nd.parts', Option.isSome_none] at hn
    refine ⟨0, 70, ?_⟩
    rw [Zfw]
    simp (maxDischargeDepth := 40) [Zez, hn]
end
theorem form_run {H : AHeap} {l : List Nd} {id : Int} : R Zbx [NL l, .int .i64 id] H = some (.bool true, H) := by
  generalize h : R Zbx [NL l, .int .i64 id] H = r
  rw [Zfr] at h
  have hkn := fun H => known7_run (H := H)
  simp (maxDischargeDepth := 40) [Zeg, hkn] at h
  generalize hM : R Zdc _ _ = q at h
  rcases made7_run hM with ⟨p, rfl⟩ | ⟨g, ns, F, H1, rfl, G1, k1, f1, gok, h60⟩
  · simp at h; exact h.symm
  by_cases c0 : 0 < ns.length
  rotate_left
  · simp (maxDischargeDepth := 40) [c0, k1] at h; exact h.symm
  have hl1 : R Zbr [.ptr g 0] H1 = some (.int .i64 ns.length, H1) := by
    obtain ⟨o1, o2, o3, t, -⟩ := G1
    exact len_run t
  have hpl := fun H => place_run (k := id) (n := ns.length) (by omega) (by omega) (H := H)
  have hm0 := Int.emod_nonneg id (by omega : (ns.length : Int) ≠ 0)
  have hm1 := Int.emod_lt_of_pos id (by omega : 0 < (ns.length : Int))
  have w1 : IntKind.i64.wrap (1 + id % ns.length) = 1 + id % ns.length := i64w (by omega) (by omega)
  simp (maxDischargeDepth := 40) [c0, hl1, hpl, w1] at h
  obtain ⟨J, hJ⟩ : ∃ J, J = 1 + id % (ns.length : Int) := ⟨_, rfl⟩
  rw [← hJ] at h
  have J1 : 1 ≤ J := by omega
  have J2 : J ≤ ns.length := by omega
  obtain ⟨f, hf, hfs⟩ : ∃ f : Nat, (4096 : Int) + 2 ≤ f ∧ ∃ f', f = f' + 1 := ⟨5000, by decide, 4999, rfl⟩
  have S1 : Sg H H1 g 4096 ns F := ⟨G1, k1, f1⟩
  generalize hN : R Zz _ _ = q at h
  obtain ⟨H2, F2, js, rfl, S2, k12, ok⟩ := S1.simp gok hf hN
  have hsim := simT_ok (most := 4096) (f := f) gok J1 J2 (Int.le_refl _) (by omega) hf
  have hfew := simT_few (most := 4096) (f := f) gok J1 J2 (Int.le_refl _) (by omega) hf
  have hs2 : (simT 4096 f ns J).2.2 = 33 → (simT 4096 f ns J).2.1 = 0 := fun h33 => by
    unfold simT at h33 ⊢
    rw [if_neg (by omega)] at h33 ⊢
    split at h33
    · cases h33
    · rename_i c
      rw [if_neg c]
  obtain ⟨X, hX⟩ : ∃ X, X = simT 4096 f ns J := ⟨_, rfl⟩
  rw [← hX] at h ok hsim hfew hs2
  rcases hsim with ⟨h0, S⟩ | h33
  rotate_left
  · obtain ⟨a1, b1, q1⟩ := weight_any S2.G J
    obtain ⟨a2, b2, q2⟩ := weight_any S2.G 0
    have q3 := simplify_none S2.G
    simp (maxDischargeDepth := 40) [h33, hs2 h33, q1, q2, q3, S2.k] at h
    exact h.symm
  obtain rfl := ok h0
  obtain ⟨Z, hZ⟩ := hfew h0
  obtain ⟨f', rfl⟩ := hfs
  have hfix := simT_fix (most := 4096) (f := f') S.gok hZ.nrm hZ.did
  have hlo := S.lo
  have hhi := S.hi
  obtain ⟨t, ht, -⟩ := S.more
  have hle : ns.length ≤ X.1.length := by rw [ht]; simp
  have hlim := S2.G.lim
  have hcone : coneT X.1 J = coneT ns J := by rw [ht]; exact coneT_more J1 J2
  have hfewc := cone_few S.gok.kok hZ.nrm hZ.did
  have hZl := hZ.len
  rw [← hcone] at hZl
  have hown : ownT X.1 J = ownT ns J := by
    unfold ownT
    rw [hcone]
    refine List.filter_congr fun x hx => ?_
    obtain ⟨j, rfl, j1, j2⟩ := cone_mem hx
    rw [ht, ndF_le (by omega)]
  have hsub : ∀ x, x ∈ ownT X.1 X.2.1 → x ∈ ownT X.1 J := fun x hx => by
    unfold ownT at hx ⊢
    rw [List.mem_filter, decide_eq_true_eq] at hx ⊢
    exact ⟨by rw [hcone]; exact hZ.vars x (cone_in_nrm S.gok.kok hZ.nrm hZ.did hx.1) hx.2, hx.2⟩
  have hcon : ¬ 0 < (ownT X.1 J).length → (ndF X.1 X.2.1).op = 1 := fun h => by
    rw [hown] at h
    have he : ownT ns J = [] := List.length_eq_zero_iff.1 (by omega)
    refine hZ.cons fun y hy h2 => ?_
    have : y ∈ ownT ns J := by
      unfold ownT
      rw [List.mem_filter, decide_eq_true_eq]
      exact ⟨hy, h2⟩
    rw [he] at this
    cases this
  obtain ⟨s, hs⟩ : ∃ s, s = X.2.1 := ⟨_, rfl⟩
  obtain ⟨ms, hms⟩ : ∃ ms, ms = X.1 := ⟨_, rfl⟩
  have gms := S.gok
  simp only [← hs, ← hms] at h hfix hlo hhi hle hlim hcone hfewc hZl hsub hcon gms S2
  have clen : ∀ x, (coneT ms x).length ≤ 5000 := fun x => by
    have h1 := cone_rises ms x
    have h2 : ∀ y, y ∈ coneT ms x → y ∈ (List.range ms.length).map fun i : Nat => (i : Int) + 1 := fun y hy => by
      obtain ⟨j, rfl, j1, j2⟩ := cone_mem hy
      simp only [List.mem_map, List.mem_range]
      exact ⟨j - 1, by omega, by omega⟩
    have h3 := sub_len h1 h2
    simp at h3
    omega
  simp (maxDischargeDepth := 40) [h0] at h
  generalize hN : R Zz _ _ = q at h
  obtain ⟨H3, F3, js, rfl, S3, k23, ok3⟩ := S2.simp gms hf hN
  rw [hfix] at h ok3
  rw [ok3 rfl] at S3
  have q1 := weight_run S3.G J1 (by omega : J ≤ ms.length)
  have q2 := weight_run S3.G hlo hhi
  obtain ⟨v1, r1, p1⟩ := cone_run2 S3.G (id := J)
  obtain ⟨v2, r2, p2⟩ := cone_run2 S3.G (id := s)
  have z1 := (p1 H3).len
  have z2 := (p2 H3).len
  have e1 := clen J
  have e2 := clen s
  obtain ⟨cJ, hcJ⟩ : ∃ cJ, cJ = (coneT ms J).length := ⟨_, rfl⟩
  obtain ⟨cs, hcs⟩ : ∃ cs, cs = (coneT ms s).length := ⟨_, rfl⟩
  rw [← hcJ] at q1 z1 e1 hZl
  rw [← hcs] at q2 z2 e2 hfewc
  have w4 : IntKind.i64.wrap (4 * (cJ : Int)) = 4 * (cJ : Int) := i64w (by omega) (by omega)
  have w5 : IntKind.i64.wrap (4 * (cJ : Int) + 64) = 4 * (cJ : Int) + 64 := i64w (by omega) (by omega)
  have c64 : ¬ 4 * (cJ : Int) + 64 < cs := by omega
  simp (maxDischargeDepth := 40) [q1, q2, r1, r2, z1, z2, w4, w5, c64] at h
  generalize hN : R Zck _ _ = q at h
  obtain ⟨u1, H4, rfl, k34, x1⟩ := vars7_run S3.G hN
  simp (maxDischargeDepth := 40) at h
  generalize hN : R Zck _ _ = q at h
  have S4 := S3.keep k34
  obtain ⟨u2, H5, rfl, k45, x2⟩ := vars7_run S4.G hN
  have S5 := S4.keep k45
  simp (maxDischargeDepth := 40) at h
  generalize hL : loopL _ _ _ _ _ _ = q at h
  have len1 : (ownT ms J).length ≤ 1000000 := by
    unfold ownT
    have h1 := List.length_filter_le (fun x => decide ((ndF ms x).op = 2)) (coneT ms J)
    omega
  have len2 : (ownT ms s).length ≤ 1000000 := by
    unfold ownT
    have h1 := List.length_filter_le (fun x => decide ((ndF ms x).op = 2)) (coneT ms s)
    omega
  obtain ⟨y, e3, H6, rfl, ⟨rfl, rfl⟩, fr⟩ := sub_loop (x1.keep k45) x2 len1 len2 hsub hL (by simp) (by simp) (by simp)
  have hnode := S5.node s
  obtain ⟨n, hn⟩ : ∃ n, n = ndF ms s := ⟨_, rfl⟩
  rw [← hn] at hnode hcon
  simp only [Nd.parts'] at hnode
  have hlen1 := x1.len
  obtain ⟨HX, hX⟩ : ∃ HX, HX = (H6.new (.cells [.int .i64 0, .int .i64 0, .int .i64 0, .int .i64 0, .int .i64 0, .int .i64 0, .int .i64 0, .int .i64 0, u 0#64, u 0#64, .str .empty])).set H6.size (.cells [.int .i64 n.op, .int .i64 n.sort, .int .i64 n.a, .int .i64 n.b, .int .i64 n.c, .int .i64 n.p, .int .i64 n.q, .int .i64 n.vw, u n.vl, u n.vh, .str n.name]) := ⟨_, rfl⟩
  have kX : Keeps H6 HX := by rw [hX]; ((repeat (first | exact Keeps.refl _ | assumption | refine Keeps.new' ?_ _ | refine Keeps.set ?_ ?_ _)) <;> (first | assumption | (simp; done) | (simp; omega)))
  have oX : HX.obj H6.size = .cells [.int .i64 n.op, .int .i64 n.sort, .int .i64 n.a, .int .i64 n.b, .int .i64 n.c, .int .i64 n.p, .int .i64 n.q, .int .i64 n.vw, u n.vl, u n.vh, .str n.name] := by rw [hX]; simp
  have lX : H6.size < HX.size := by rw [hX]; simp
  have S6 := S5.keep kX
  by_cases cl : 0 < (ownT ms J).length
  · simp (maxDischargeDepth := 40) [fr, hnode, ← hX, hlen1, cl, S6.k] at h
    exact h.symm
  · have h1 := hcon cl
    have hz : (ownT ms J).length = 0 := by omega
    rw [hz] at hlen1
    rw [h1] at oX
    simp (maxDischargeDepth := 40) [fr, hnode, ← hX, oX, hlen1, S6.k] at h
    exact h.symm
end Go.Proofs.Ytiobohfiaapgeaa
end
section
namespace Go.Proofs.Ytiobohfiaapgeaa
set_option maxRecDepth 100000
theorem tv_int {d : Nat} {a : AV} (h : TV Try.prog (d + 1) 3 a) : ∃ n, a = .int .i64 n ∧ -9223372036854775808 ≤ n ∧ n ≤ 9223372036854775807 := tv_i64 Try.underlying3 h
theorem cs3 {cs : List AV} (h : cs.length = 3) : ∃ x0 x1 x2, cs = [x0, x1, x2] := by
  match cs, h with
  | [x0, x1, x2], _ => exact ⟨x0, x1, x2, rfl⟩
theorem tc_bits {d : Nat} {cs : List AV} (h : TC Try.prog (d + 2) 37 cs) : ∃ v : Vl, cs = v.cs := by
  have c3 : Try.prog.cellsOf 37 = 3 := by kernel_rfl
  have c1 : Try.prog.cellsOf 3 = 1 := by kernel_rfl
  have cu : Try.prog.cellsOf 35 = 1 := by kernel_rfl
  obtain ⟨hl, hf⟩ := tc_struct Try.underlying37 h
  rw [c3] at hl
  obtain ⟨x0, x1, x2, rfl⟩ := cs3 hl
  simp [c1, cu] at hf
  obtain ⟨g0, g1, g2⟩ := hf
  obtain ⟨n0, e0, -⟩ := tc_i64 Try.underlying3 g0
  obtain ⟨y1, e1⟩ := tc_u64 Try.underlying35 g1
  obtain ⟨y2, e2⟩ := tc_u64 Try.underlying35 g2
  simp at e0 e1 e2
  exact ⟨⟨n0, mkN y1 y2⟩, by rw [e0, e1, e2, Vl.cs, lo_mk, hi_mk]⟩
theorem tv_bits {d : Nat} {a : AV} (h : TV Try.prog (d + 2) 37 a) : ∃ v : Vl, a = v.av := by
  obtain ⟨cs, rfl, h2⟩ := tv_struct Try.underlying37 h
  obtain ⟨v, rfl⟩ := tc_bits h2
  exact ⟨v, rfl⟩
theorem tv_vals {d : Nat} {a : AV} (h : TV Try.prog (d + 3) 86 a) : ∃ l : List Vl, ∀ H, RV H a l := by
  obtain ⟨n, ds, rfl, h2, h3, h4⟩ := tv_slice Try.underlying86 h
  have c3 : Try.prog.cellsOf 37 = 3 := by kernel_rfl
  rw [c3] at h2 h4
  obtain ⟨ss, e1, e2, -⟩ := chunks Vl.cs (fun _ => True) (fun _ => rfl) h2 fun i hi => by
    obtain ⟨v, hv⟩ := tc_bits (h4 i hi)
    exact ⟨v, trivial, hv⟩
  subst e2
  exact ⟨ss, fun H => by rw [c3]; subst e1; exact Reads.lst h2⟩
theorem ints_cells : ∀ ss : List Int, ss.flatMap (fun x : Int => [AV.int .i64 x]) = ss.map (.int .i64)
  | [] => rfl
  | x :: l => by rw [List.flatMap_cons, ints_cells l]; rfl
theorem tv_ints {d : Nat} {a : AV} (h : TV Try.prog (d + 2) 32 a) : ∃ l : List Int, (∀ H, RI H a l) ∧ ∀ x, x ∈ l → -9223372036854775808 ≤ x ∧ x ≤ 9223372036854775807 := by
  obtain ⟨n, ds, rfl, h2, h3, h4⟩ := tv_slice Try.underlying32 h
  have c1 : Try.prog.cellsOf 3 = 1 := by kernel_rfl
  rw [c1] at h2 h4
  obtain ⟨ss, e1, e2, e3⟩ := chunks (fun x : Int => [AV.int .i64 x]) (fun x => -9223372036854775808 ≤ x ∧ x ≤ 9223372036854775807) (fun _ => rfl) h2 fun i hi => by
    obtain ⟨n0, e0, b1, b2⟩ := tc_i64 Try.underlying3 (h4 i hi)
    exact ⟨n0, ⟨b1, b2⟩, e0⟩
  subst e2
  have e4 := ints_cells ss
  exact ⟨ss, fun H => by rw [c1]; subst e1; rw [e4] at h2 ⊢; exact Reads.lst h2, e3⟩
theorem cs4 {cs : List AV} (h : cs.length = 4) : ∃ x0 x1 x2 x3, cs = [x0, x1, x2, x3] := by
  match cs, h with
  | [x0, x1, x2, x3], _ => exact ⟨x0, x1, x2, x3, rfl⟩
theorem tv_named {d : Nat} {a : AV} (h : TV Try.prog (d + 4) 49 a) : ∃ l : List Nm, ∀ H, RN H a l := by
  obtain ⟨n, ds, rfl, h2, h3, h4⟩ := tv_slice Try.underlying49 h
  have c4 : Try.prog.cellsOf 77 = 4 := by kernel_rfl
  have c3 : Try.prog.cellsOf 37 = 3 := by kernel_rfl
  have c9 : Try.prog.cellsOf 9 = 1 := by kernel_rfl
  rw [c4] at h2 h4
  obtain ⟨ss, e1, e2, -⟩ := chunks Nm.cs (fun _ => True) (fun _ => rfl) h2 fun i hi => by
    have hs := h4 i hi
    generalize (ds.drop (i * 4)).take 4 = cs at hs
    obtain ⟨hl, hf⟩ := tc_struct Try.underlying77 hs
    rw [c4] at hl
    obtain ⟨x0, x1, x2, x3, rfl⟩ := cs4 hl
    simp [c3, c9] at hf
    obtain ⟨g0, g1⟩ := hf
    obtain ⟨s, e0, -⟩ := tc_str Try.underlying9 g0
    obtain ⟨v, hv⟩ := tc_bits g1
    simp at e0
    exact ⟨⟨s, v⟩, trivial, by rw [e0]; simp only [Nm.cs]; rw [← hv]⟩
  subst e2
  exact ⟨ss, fun H => by rw [c4]; subst e1; exact Reads.lst h2⟩
theorem cs11 {cs : List AV} (h : cs.length = 11) : ∃ x0 x1 x2 x3 x4 x5 x6 x7 x8 x9 x10, cs = [x0, x1, x2, x3, x4, x5, x6, x7, x8, x9, x10] := by
  match cs, h with
  | [x0, x1, x2, x3, x4, x5, x6, x7, x8, x9, x10], _ => exact ⟨x0, x1, x2, x3, x4, x5, x6, x7, x8, x9, x10, rfl⟩
theorem tc_node {d : Nat} {cs : List AV} (h : TC Try.prog (d + 3) 39 cs) : ∃ n : Nd, cs = n.cs := by
  have c11 : Try.prog.cellsOf 39 = 11 := by kernel_rfl
  have c1 : Try.prog.cellsOf 3 = 1 := by kernel_rfl
  have c3 : Try.prog.cellsOf 37 = 3 := by kernel_rfl
  have c9 : Try.prog.cellsOf 9 = 1 := by kernel_rfl
  obtain ⟨hl, hf⟩ := tc_struct Try.underlying39 h
  rw [c11] at hl
  obtain ⟨x0, x1, x2, x3, x4, x5, x6, x7, x8, x9, x10, rfl⟩ := cs11 hl
  simp [c1, c3, c9] at hf
  obtain ⟨g0, g1, g2, g3, g4, g5, g6, g7, g8⟩ := hf
  obtain ⟨n0, e0, -⟩ := tc_i64 Try.underlying3 g0
  obtain ⟨n1, e1, -⟩ := tc_i64 Try.underlying3 g1
  obtain ⟨n2, e2, -⟩ := tc_i64 Try.underlying3 g2
  obtain ⟨n3, e3, -⟩ := tc_i64 Try.underlying3 g3
  obtain ⟨n4, e4, -⟩ := tc_i64 Try.underlying3 g4
  obtain ⟨n5, e5, -⟩ := tc_i64 Try.underlying3 g5
  obtain ⟨n6, e6, -⟩ := tc_i64 Try.underlying3 g6
  obtain ⟨s, e10, -⟩ := tc_str Try.underlying9 g8
  obtain ⟨v, hv⟩ := tc_bits g7
  simp [Vl.cs] at e0 e1 e2 e3 e4 e5 e6 e10 hv
  exact ⟨⟨n0, n1, n2, n3, n4, n5, n6, v.w, lo v.n, hi v.n, s⟩, by rw [e0, e1, e2, e3, e4, e5, e6, e10, hv.1, hv.2.1, hv.2.2]; rfl⟩
theorem tv_nodes {d : Nat} {a : AV} (h : TV Try.prog (d + 4) 22 a) : ∃ l : List Nd, a = NL l := by
  obtain ⟨n, ds, rfl, h2, h3, h4⟩ := tv_slice Try.underlying22 h
  have c11 : Try.prog.cellsOf 39 = 11 := by kernel_rfl
  rw [c11] at h2 h4
  obtain ⟨ss, e1, e2, -⟩ := chunks Nd.cs (fun _ => True) (fun _ => rfl) h2 fun i hi => by
    obtain ⟨n, hn⟩ := tc_node (h4 i hi)
    exact ⟨n, trivial, hn⟩
  exact ⟨ss, by rw [NL, e2, c11, e1]; rfl⟩
end Go.Proofs.Ytiobohfiaapgeaa
end
section
namespace Go.Proofs.Ytiobohfiaapgeaa
set_option maxRecDepth 100000
theorem RewriteForm_law {a0 a1 : AV} (y0 : TV Try.prog 8 Zs a0) (y1 : TV Try.prog 8 Zd a1) : ∃ H', R Zbx [a0, a1] H0 = some (.bool true, H') := by
  obtain ⟨l, rfl⟩ := tv_nodes (d := 4) y0
  obtain ⟨n1, rfl, -⟩ := tv_int (d := 7) y1
  exact ⟨_, form_run⟩
end Go.Proofs.Ytiobohfiaapgeaa
end
