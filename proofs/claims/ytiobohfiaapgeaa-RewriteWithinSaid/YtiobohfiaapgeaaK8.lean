/- Texts RWN RWW RWO TVB RWOV of this claim, one behind the other. -/
import Derived.Test.YtiobohfiaapgeaaK7
section
namespace Go.Proofs.Ytiobohfiaapgeaa
set_option maxRecDepth 100000
set_option maxHeartbeats 4000000
theorem worth_at {ms : List Nd} {look : ByteArray → Option Vl} (hA : AllFit look ms) {i : Int} (h1 : 1 ≤ i) (h2 : i ≤ ms.length) : worthS look ms i = (V look ms i, 0) := by
  unfold worthS
  rw [if_neg (by omega), if_neg (by rw [hA.any]; simp)]
theorem within_all {H : AHeap} {g : Nat} {ms : List Nd} {F : List Nat} (G : GT H g 4096 ms F) (gm : Gok ms) {id to s : Int} (hw : widthF 7 (vnodes ms) 0 ≤ 7) {v : AV} (hv : ∀ H', Reads H' v 11 (vnodes ms).length (flat (vnodes ms))) (hl : ms.length ≤ 4096)
    (hval : ∀ look, AllFit look ms → worthS look ms id = (V look ms s, 0) ∧ worthS look ms to = (V look ms s, 0) ∧ worthS look ms s = (V look ms s, 0)) {e : Env} {r : Rn} (hL : loopL Try.prog KT R Zbb e H = r)
    (e1 : e 1 = some (.int .i64 id)) (e7 : e 7 = some (.ptr g 0)) (e16 : e 16 = some (.int .i64 to)) (e18 : e 18 = some (.int .i64 s)) (e20 : e 20 = some v) (e21 : e 21 = some (.bool true)) (e23 : e 23 = some (.int .i64 0)) :
    ∃ y e' H', r = some (y, e', H') ∧ (y = .exit 2 ∧ Keeps H H') ∧ ∀ t, t ∉ defs Zbb → e' t = e t := by
  have hso : ∀ n, n ∈ vnodes ms → 0 ≤ n.sort ∧ n.sort ≤ 128 := fun n hn => by
    obtain ⟨h1, h2⟩ := vnodes_mem.1 hn
    have hso := gm.sort h1 h2
    unfold isSort at hso
    exact of_decide_eq_true hso
  obtain ⟨-, hs9⟩ := widthF_few (vnodes ms) 0 (by omega) hw
  have h0 := widthF_nonneg (most := 7) (vnodes ms) 0 (by omega)
  have hvl := vnodes_len ms
  have hwd := fun H' => width_run (N := 7) (H := H') (hv H') (by omega) hso
  obtain ⟨W, hW⟩ : ∃ W, W = widthF 7 (vnodes ms) 0 := ⟨_, rfl⟩
  rw [← hW] at hwd h0 hw
  have hnth := fun H' (k : Int) => nth_run (H := H') hv (by omega) (fun n hn => ⟨(hso n hn).1, by have := hs9 n hn; omega⟩) (k := k)
  obtain ⟨B, hB⟩ : ∃ B : Nat, B = 2 ^ W.toNat := ⟨_, rfl⟩
  have hB1 : 1 ≤ B := by rw [hB]; exact Nat.one_le_two_pow
  have hB2 : B ≤ 512 := by
    have : W.toNat ≤ 9 := by omega
    rw [hB]
    exact Nat.le_trans (Nat.pow_le_pow_right (by omega) this) (by decide)
  have hWn : ¬ W < 0 := by omega
  have hsh : IntKind.i64.wrap (2 ^ (min W.toNat 64)) = (B : Int) := by
    rw [Nat.min_eq_left (by omega : W.toNat ≤ 64)]
    have e : (2 : Int) ^ W.toNat = (B : Int) := by rw [hB]; simp
    rw [e]
    exact i64w (by omega) (by omega)
  refine loop_count Zbb.eq_1 hL B (fun i e1 H1 => e1 23 = some (.int .i64 i) ∧ Keeps H H1) _ 0 (Nat.zero_le _) ⟨e23, Keeps.refl _⟩ ?_ ?_
  · rintro i f H1 hf - hi ⟨f23, k1⟩
    have w1 : IntKind.i64.wrap ((i : Int) + 1) = (i : Int) + 1 := i64w (by omega) (by omega)
    have c1 : (i : Int) < B := by omega
    obtain ⟨w, hn, hr⟩ := hnth H1 i
    have hfit := nth_fit gm (k := i) (fun n hn => by have := hs9 n hn; omega)
    obtain ⟨x1, x2, x3⟩ := hval _ hfit
    have hev := fun (H' : AHeap) (kk : Keeps H1 H') (j : Int) => eval_run ((G.keeps k1).keeps kk) gm (hr H') (by rw [nthL_len]; omega) (id := j)
    have v1 := hev H1 (Keeps.refl _) id
    have v2 := fun (x : AObj) (y : AObj) => hev ((H1.new x).set H1.size y) (by ((repeat (first | exact Keeps.refl _ | assumption | refine Keeps.new' ?_ _ | refine Keeps.set ?_ ?_ _)) <;> (first | assumption | (simp; done) | (simp; omega)))) to
    have v3 := fun (x : AObj) (y : AObj) (z : AObj) (t : AObj) => hev ((((H1.new x).set H1.size y).new z).set (H1.size + 1) t) (by ((repeat (first | exact Keeps.refl _ | assumption | refine Keeps.new' ?_ _ | refine Keeps.set ?_ ?_ _)) <;> (first | assumption | (simp; done) | (simp; omega)))) s
    rw [x1] at v1
    simp only [x2] at v2
    simp only [x3] at v3
    by_cases c0 : (i : Int) < 1
    · simp (maxDischargeDepth := 40) [hf, e1, e7, e16, e18, e20, e21, f23, c0, hn, v1, v2, v3, w1]
      exact k1.trans (by ((repeat (first | exact Keeps.refl _ | assumption | refine Keeps.new' ?_ _ | refine Keeps.set ?_ ?_ _)) <;> (first | assumption | (simp; done) | (simp; omega))))
    · simp (maxDischargeDepth := 40) [hf, e1, e7, e16, e18, e20, e21, f23, hwd, hWn, hsh, c0, c1, hn, v1, v2, v3, w1]
      exact k1.trans (by ((repeat (first | exact Keeps.refl _ | assumption | refine Keeps.new' ?_ _ | refine Keeps.set ?_ ?_ _)) <;> (first | assumption | (simp; done) | (simp; omega))))
  · rintro f H1 hf ⟨f23, k1⟩
    have c0 : ¬ (B : Int) < 1 := by omega
    simp (maxDischargeDepth := 40) [hf, f23, e20, e21, hwd, hWn, hsh, c0]
    exact k1
theorem within_once {H : AHeap} {g : Nat} {ms : List Nd} {F : List Nat} (G : GT H g 4096 ms F) (gm : Gok ms) {id to s : Int} {cv : AV} {fl : List Nm} (hc : ∀ H', RN H' cv fl) (hfl : fl.length ≤ 1000000)
    (hval : worthS (lookL fl) ms id = (V (lookL fl) ms s, 0) ∧ worthS (lookL fl) ms to = (V (lookL fl) ms s, 0) ∧ worthS (lookL fl) ms s = (V (lookL fl) ms s, 0)) {e : Env} {r : Rn} (hL : loopL Try.prog KT R Zbb e H = r)
    (e1 : e 1 = some (.int .i64 id)) (e7 : e 7 = some (.ptr g 0)) (e16 : e 16 = some (.int .i64 to)) (e18 : e 18 = some (.int .i64 s)) (e21 : e 21 = some (.bool false)) (e22 : e 22 = some cv) (e23 : e 23 = some (.int .i64 0)) :
    ∃ y e' H', r = some (y, e', H') ∧ (y = .exit 2 ∧ Keeps H H') ∧ ∀ t, t ∉ defs Zbb → e' t = e t := by
  refine loop_count Zbb.eq_1 hL 1 (fun i e1 H1 => e1 23 = some (.int .i64 i) ∧ e1 22 = some cv ∧ Keeps H H1) _ 0 (Nat.zero_le _) ⟨e23, e22, Keeps.refl _⟩ ?_ ?_
  · rintro i f H1 hf - hi ⟨f23, f22, k1⟩
    obtain rfl : i = 0 := by omega
    obtain ⟨x1, x2, x3⟩ := hval
    have hev := fun (H' : AHeap) (kk : Keeps H1 H') (j : Int) => eval_run ((G.keeps k1).keeps kk) gm (hc H') hfl (id := j)
    have v1 := hev H1 (Keeps.refl _) id
    have v2 := fun (x : AObj) (y : AObj) => hev ((H1.new x).set H1.size y) (by ((repeat (first | exact Keeps.refl _ | assumption | refine Keeps.new' ?_ _ | refine Keeps.set ?_ ?_ _)) <;> (first | assumption | (simp; done) | (simp; omega)))) to
    have v3 := fun (x : AObj) (y : AObj) (z : AObj) (t : AObj) => hev ((((H1.new x).set H1.size y).new z).set (H1.size + 1) t) (by ((repeat (first | exact Keeps.refl _ | assumption | refine Keeps.new' ?_ _ | refine Keeps.set ?_ ?_ _)) <;> (first | assumption | (simp; done) | (simp; omega)))) s
    rw [x1] at v1
    simp only [x2] at v2
    simp only [x3] at v3
    simp (maxDischargeDepth := 40) [hf, e1, e7, e16, e18, e21, f22, f23, v1, v2, v3]
    exact k1.trans (by ((repeat (first | exact Keeps.refl _ | assumption | refine Keeps.new' ?_ _ | refine Keeps.set ?_ ?_ _)) <;> (first | assumption | (simp; done) | (simp; omega))))
  · rintro f H1 hf ⟨f23, f22, k1⟩
    simp (maxDischargeDepth := 40) [hf, f23, e21]
    exact k1
end Go.Proofs.Ytiobohfiaapgeaa
end
section
namespace Go.Proofs.Ytiobohfiaapgeaa
set_option maxRecDepth 100000
set_option maxHeartbeats 4000000
section
variable {H : AHeap} {g : Nat} {ns : List Nd}
theorem within_loop {H1 : AHeap} {F : List Nat} (S : Sg H H1 g 4096 ns F) (gk : Gok ns) {k : Int} (h1 : 1 ≤ k) (h2 : k ≤ ns.length) {o : Nat} (ho : H.size ≤ o) (lo : o < H1.size) (hoF : o ∉ F) (ob : H1.obj o = .cells [.int .i64 (ndF ns k).a, .int .i64 (ndF ns k).b, .int .i64 (ndF ns k).c]) {e : Env} {r : Rn}
    (hL : loopL Try.prog KT R Zbz e H1 = r) (e7 : e 7 = some (.ptr g 0)) (e12 : e 12 = some (.row o 0 1 3 true)) (e13 : e 13 = some (.int .i64 0)) :
    ∃ y e' H', r = some (y, e', H') ∧ (Keeps H H' ∧ ((y = .ret ∧ e' 6 = some (.bool true)) ∨
      (y = .exit 0 ∧ ∃ js F' t a b c, Sg H H' g 4096 js F' ∧ Gok js ∧ js = ns ++ t ∧ (∀ m, m ∈ t → ¬ m.op = 2) ∧ Fr (o :: F) H1 H' ∧ H'.obj o = .cells [.int .i64 a, .int .i64 b, .int .i64 c] ∧ (∀ p, p ∈ F' → p ∈ F ∨ H1.size ≤ p) ∧ Kd ns js (ndF ns k).a a ∧ Kd ns js (ndF ns k).b b ∧ Kd ns js (ndF ns k).c c))) ∧ ∀ t, t ∉ defs Zbz → e' t = e t := by
  obtain ⟨n, hn⟩ : ∃ n, n = ndF ns k := ⟨_, rfl⟩
  rw [← hn] at ob ⊢
  obtain ⟨i0, hi0, hni⟩ := nd_at h1 h2
  rw [← hn] at hni
  obtain ⟨⟨a0, a1⟩, ⟨b0, b1⟩, ⟨c0, c1⟩⟩ := gk.kok i0 _ hni
  obtain ⟨f, hf5⟩ : ∃ f : Nat, (4096 : Int) + 2 ≤ f := ⟨5000, by decide⟩
  -- one kid
  have kid : ∀ {H2 : AHeap} {js F' : List _} {t : List Nd}, Sg H H2 g 4096 js F' → Gok js → js = ns ++ t → (∀ m, m ∈ t → ¬ m.op = 2) → ∀ y : Int, 1 ≤ y → y ≤ ns.length → ∀ q, R Zw [.ptr g 0, .int .i64 y] H2 = q →
      (∃ H3 z, q = some (.tup [.int .i64 z, .int .i64 33], H3) ∧ Keeps H H3) ∨ ∃ H3 z js' F3 t', q = some (.tup [.int .i64 z, .int .i64 0], H3) ∧ Sg H H3 g 4096 js' F3 ∧ Gok js' ∧ js' = js ++ t' ∧ (∀ m, m ∈ t' → ¬ m.op = 2) ∧ Fr F' H2 H3 ∧ (∀ p, p ∈ F3 → p ∈ F' ∨ H2.size ≤ p) ∧ Kd ns js' y z := fun {H2 js F' t} S2 g2 ht hno y y1 y2 q hq => by
    have hle : ns.length ≤ js.length := by rw [ht]; simp
    have hlim := S2.G.lim
    obtain ⟨H3, F3, js', rfl, G3, k3, n3, ok⟩ := simplify_run S2.G g2 hf5 hq
    have hk3 : Keeps H H3 := k3.keeps S2.k S2.new
    rcases simT_ok (most := 4096) (f := f) g2 y1 (by omega : y ≤ js.length) (Int.le_refl _) hlim.1 hf5 with ⟨h0, SS⟩ | h33
    · right
      obtain rfl := ok h0
      obtain ⟨t', ht', hno'⟩ := SS.more
      refine ⟨H3, _, _, F3, t', by rw [h0], ⟨G3, hk3, fun p hp => ?_⟩, SS.gok, ht', hno', k3, n3, .inr ⟨y1, y2, SS.lo, SS.hi, ?_, fun look hA => ?_⟩⟩
      · have := S2.k.size
        rcases n3 p hp with h | h
        · exact S2.new p h
        · omega
      · rw [SS.srt, ht, ndF_more y1 y2]
      · have hA2 : AllFit look js := by rw [ht]; exact hA.appends hno
        rw [SS.val look hA2, ht, V_more y2]
    · exact .inl ⟨H3, _, by rw [h33], hk3⟩
  have hoJ : ∀ {F' : List Nat}, (∀ p, p ∈ F' → p ∈ F ∨ H1.size ≤ p) → o ∉ F' := fun {F'} hn hp => by
    rcases hn o hp with h | h
    · exact hoF h
    · omega
  obtain ⟨I, hI⟩ : ∃ I : Nat → AHeap → Prop, I = fun i H2 => (∃ js F' t a b c, Sg H H2 g 4096 js F' ∧ Gok js ∧ js = ns ++ t ∧ (∀ m, m ∈ t → ¬ m.op = 2) ∧ Fr (o :: F) H1 H2 ∧ H2.obj o = .cells [.int .i64 a, .int .i64 b, .int .i64 c] ∧ (∀ p, p ∈ F' → p ∈ F ∨ H1.size ≤ p) ∧
      (if 0 < i then Kd ns js n.a a else a = n.a) ∧ (if 1 < i then Kd ns js n.b b else b = n.b) ∧ (if 2 < i then Kd ns js n.c c else c = n.c)) := ⟨_, rfl⟩
  refine loop_count Zbz.eq_1 hL 3 (fun i e1 H2 => e1 13 = some (.int .i64 i) ∧ Keeps H H2 ∧ I i H2) _ 0 (Nat.zero_le _)
    ⟨e13, S.k, by rw [hI]; exact ⟨ns, F, [], n.a, n.b, n.c, S, gk, by simp, by simp, Fr.refl _ _, ob, fun p hp => .inl hp, by simp, by simp, by simp⟩⟩ ?_ ?_
  · rintro i e1 H2 hf - hi' ⟨f13, kH2, hI2⟩
    rw [hI] at hI2
    obtain ⟨js, F', t, a, b, c, S2, g2, ht, hno, k2, ob2, n2, ka, kb, kc⟩ := hI2
    have w1 : IntKind.i64.wrap ((i : Int) + 1) = (i : Int) + 1 := i64w (by omega) (by omega)
    have c3 : (i : Int) < 3 := by omega
    have lo2 := k2.lt lo
    rcases (by omega : i = 0 ∨ i = 1 ∨ i = 2) with rfl | rfl | rfl
    · simp only [Nat.lt_irrefl, if_false, show ¬ 1 < 0 by omega, show ¬ 2 < 0 by omega] at ka kb kc
      by_cases cy : 0 < n.a
      · generalize hq : R Zw [.ptr g 0, .int .i64 n.a] H2 = q
        have kk := kid S2 g2 ht hno n.a (by omega) (by omega) q hq
        subst ka
        rcases kk with ⟨H3, z, rfl, k3⟩ | ⟨H3, z, js', F3, t', rfl, S3, g3, ht', hno', k3, n3, kz⟩
        · simp (maxDischargeDepth := 40) [hf, e7, e12, f13, ob2, cy, hq]
          exact k3
        · have o3 : H3.obj o = .cells [.int .i64 n.a, .int .i64 b, .int .i64 c] := by rw [k3.obj o lo2 (hoJ n2)]; exact ob2
          have lo3 := k3.lt lo2
          simp (maxDischargeDepth := 40) [hf, e7, e12, f13, ob2, cy, hq, o3]
          have hs2 := k2.size
          have n4 : ∀ p, p ∈ F3 → p ∈ F ∨ H1.size ≤ p := fun p hp => by
            rcases n3 p hp with h | h
            · exact n2 p h
            · exact .inr (by omega)
          obtain ⟨H4, hH4⟩ : ∃ H4, H4 = H3.set o (.cells [.int .i64 z, .int .i64 b, .int .i64 c]) := ⟨_, rfl⟩
          rw [← hH4]
          have k4 : Fr [o] H3 H4 := by rw [hH4]; exact (Fr.refl _ H3).set (.inl (by simp)) _
          have S4 : Sg H H4 g 4096 js' F3 := ⟨S3.G.frame k4 fun p hp => by
            have := hoJ n4
            intro hpo
            simp at hpo
            subst hpo
            exact this hp, by rw [hH4]; exact S3.k.set ho _, S3.new⟩
          have kf : Fr (o :: F) H1 H4 := (k2.trans k3 fun p hp => by
            rcases n2 p hp with h | h
            · exact .inl (by simp [h])
            · exact .inr h).trans k4 fun p hp => by simp at hp; subst hp; exact .inl (by simp)
          refine ⟨S4.k, ?_⟩
          rw [hI]
          refine ⟨js', F3, t ++ t', z, b, c, S4, g3, by rw [ht', ht, List.append_assoc], fun m hm => ?_, kf, by rw [hH4]; simp, n4, kz, kb, kc⟩
          rcases List.mem_append.1 hm with h | h
          · exact hno m h
          · exact hno' m h
      · subst ka
        simp (maxDischargeDepth := 40) [hf, e12, f13, ob2, cy]
        refine ⟨kH2, ?_⟩
        rw [hI]
        exact ⟨js, F', t, n.a, b, c, S2, g2, ht, hno, k2, ob2 , n2, .inl ⟨by omega, by omega⟩, kb, kc⟩
    · simp only [Nat.lt_irrefl, if_false, if_true, show ¬ 2 < 1 by omega, show 0 < 1 by omega] at ka kb kc
      by_cases cy : 0 < n.b
      · generalize hq : R Zw [.ptr g 0, .int .i64 n.b] H2 = q
        have kk := kid S2 g2 ht hno n.b (by omega) (by omega) q hq
        subst kb
        rcases kk with ⟨H3, z, rfl, k3⟩ | ⟨H3, z, js', F3, t', rfl, S3, g3, ht', hno', k3, n3, kz⟩
        · simp (maxDischargeDepth := 40) [hf, e7, e12, f13, ob2, cy, hq]
          exact k3
        · have o3 : H3.obj o = .cells [.int .i64 a, .int .i64 n.b, .int .i64 c] := by rw [k3.obj o lo2 (hoJ n2)]; exact ob2
          have lo3 := k3.lt lo2
          simp (maxDischargeDepth := 40) [hf, e7, e12, f13, ob2, cy, hq, o3]
          have hs2 := k2.size
          have n4 : ∀ p, p ∈ F3 → p ∈ F ∨ H1.size ≤ p := fun p hp => by
            rcases n3 p hp with h | h
            · exact n2 p h
            · exact .inr (by omega)
          obtain ⟨H4, hH4⟩ : ∃ H4, H4 = H3.set o (.cells [.int .i64 a, .int .i64 z, .int .i64 c]) := ⟨_, rfl⟩
          rw [← hH4]
          have k4 : Fr [o] H3 H4 := by rw [hH4]; exact (Fr.refl _ H3).set (.inl (by simp)) _
          have S4 : Sg H H4 g 4096 js' F3 := ⟨S3.G.frame k4 fun p hp => by
            have := hoJ n4
            intro hpo
            simp at hpo
            subst hpo
            exact this hp, by rw [hH4]; exact S3.k.set ho _, S3.new⟩
          have kf : Fr (o :: F) H1 H4 := (k2.trans k3 fun p hp => by
            rcases n2 p hp with h | h
            · exact .inl (by simp [h])
            · exact .inr h).trans k4 fun p hp => by simp at hp; subst hp; exact .inl (by simp)
          refine ⟨S4.k, ?_⟩
          rw [hI]
          refine ⟨js', F3, t ++ t', a, z, c, S4, g3, by rw [ht', ht, List.append_assoc], fun m hm => ?_, kf, by rw [hH4]; simp, n4, ka.more ht', kz, kc⟩
          rcases List.mem_append.1 hm with h | h
          · exact hno m h
          · exact hno' m h
      · subst kb
        simp (maxDischargeDepth := 40) [hf, e12, f13, ob2, cy]
        refine ⟨kH2, ?_⟩
        rw [hI]
        exact ⟨js, F', t, a, n.b, c, S2, g2, ht, hno, k2, ob2 , n2, ka, .inl ⟨by omega, by omega⟩, kc⟩
    · simp only [Nat.lt_irrefl, if_false, if_true, show 0 < 2 by omega, show 1 < 2 by omega] at ka kb kc
      by_cases cy : 0 < n.c
      · generalize hq : R Zw [.ptr g 0, .int .i64 n.c] H2 = q
        have kk := kid S2 g2 ht hno n.c (by omega) (by omega) q hq
        subst kc
        rcases kk with ⟨H3, z, rfl, k3⟩ | ⟨H3, z, js', F3, t', rfl, S3, g3, ht', hno', k3, n3, kz⟩
        · simp (maxDischargeDepth := 40) [hf, e7, e12, f13, ob2, cy, hq]
          exact k3
        · have o3 : H3.obj o = .cells [.int .i64 a, .int .i64 b, .int .i64 n.c] := by rw [k3.obj o lo2 (hoJ n2)]; exact ob2
          have lo3 := k3.lt lo2
          simp (maxDischargeDepth := 40) [hf, e7, e12, f13, ob2, cy, hq, o3]
          have hs2 := k2.size
          have n4 : ∀ p, p ∈ F3 → p ∈ F ∨ H1.size ≤ p := fun p hp => by
            rcases n3 p hp with h | h
            · exact n2 p h
            · exact .inr (by omega)
          obtain ⟨H4, hH4⟩ : ∃ H4, H4 = H3.set o (.cells [.int .i64 a, .int .i64 b, .int .i64 z]) := ⟨_, rfl⟩
          rw [← hH4]
          have k4 : Fr [o] H3 H4 := by rw [hH4]; exact (Fr.refl _ H3).set (.inl (by simp)) _
          have S4 : Sg H H4 g 4096 js' F3 := ⟨S3.G.frame k4 fun p hp => by
            have := hoJ n4
            intro hpo
            simp at hpo
            subst hpo
            exact this hp, by rw [hH4]; exact S3.k.set ho _, S3.new⟩
          have kf : Fr (o :: F) H1 H4 := (k2.trans k3 fun p hp => by
            rcases n2 p hp with h | h
            · exact .inl (by simp [h])
            · exact .inr h).trans k4 fun p hp => by simp at hp; subst hp; exact .inl (by simp)
          refine ⟨S4.k, ?_⟩
          rw [hI]
          refine ⟨js', F3, t ++ t', a, b, z, S4, g3, by rw [ht', ht, List.append_assoc], fun m hm => ?_, kf, by rw [hH4]; simp, n4, ka.more ht', kb.more ht', kz⟩
          rcases List.mem_append.1 hm with h | h
          · exact hno m h
          · exact hno' m h
      · subst kc
        simp (maxDischargeDepth := 40) [hf, e12, f13, ob2, cy]
        refine ⟨kH2, ?_⟩
        rw [hI]
        exact ⟨js, F', t, a, b, n.c, S2, g2, ht, hno, k2, ob2 , n2, ka, kb, .inl ⟨by omega, by omega⟩⟩
  · rintro e1 H2 hf ⟨f13, kH2, hI2⟩
    rw [hI] at hI2
    obtain ⟨js, F', t, a, b, c, S2, g2, ht, hno, k2, ob2, n2, ka, kb, kc⟩ := hI2
    simp only [show 0 < 3 by omega, show 1 < 3 by omega, show 2 < 3 by omega, if_true] at ka kb kc
    have fin : ∃ js F' t a b c, Sg H H2 g 4096 js F' ∧ Gok js ∧ js = ns ++ t ∧ (∀ m, m ∈ t → ¬ m.op = 2) ∧ Fr (o :: F) H1 H2 ∧ H2.obj o = .cells [.int .i64 a, .int .i64 b, .int .i64 c] ∧ (∀ p, p ∈ F' → p ∈ F ∨ H1.size ≤ p) ∧ Kd ns js n.a a ∧ Kd ns js n.b b ∧ Kd ns js n.c c := ⟨js, F', t, a, b, c, S2, g2, ht, hno, k2, ob2, n2, ka, kb, kc⟩
    simp [f13]
    exact ⟨S2.k, by simpa using fin⟩
end
end Go.Proofs.Ytiobohfiaapgeaa
end
section
namespace Go.Proofs.Ytiobohfiaapgeaa
set_option maxRecDepth 100000
set_option maxHeartbeats 4000000
theorem simT_none {most : Int} {f : Nat} {ns : List Nd} : simT most f ns 0 = (ns, 0, 70) := by
  unfold simT
  rw [if_pos (by omega)]
theorem Sg.put {H H1 : AHeap} {g : Nat} {most : Int} {ns : List Nd} {F : List Nat} (S : Sg H H1 g most ns F) {o : Nat} (ho : H.size ≤ o) (hF : o ∉ F) (c : AObj) : Sg H (H1.set o c) g most ns F := by
  have k4 : Fr [o] H1 (H1.set o c) := (Fr.refl _ H1).set (.inl (by simp)) _
  exact ⟨S.G.frame k4 fun p hp hpo => by simp at hpo; subst hpo; exact hF hp, S.k.set ho _, S.new⟩
theorem within_run {H : AHeap} {l : List Nd} {id : Int} {s : AV} {env : List Nm} (hs : ∀ H, RN H s env) : R Zbl [NL l, .int .i64 id, s] H = some (.bool true, H) := by
  generalize h : R Zbl [NL l, .int .i64 id, s] H = r
  rw [Zf0] at h
  have hle := (hs H).len
  have hkn := fun H => known7_run (H := H)
  simp (maxDischargeDepth := 40) [Zeh, hkn] at h
  generalize hM : R Zdo _ _ = q at h
  rcases made7_run hM with ⟨p, rfl⟩ | ⟨g, ns, F, H1, rfl, G1, k1, f1, gok, h60⟩
  · simp at h; exact h.symm
  by_cases c0 : 0 < ns.length
  rotate_left
  · simp (maxDischargeDepth := 40) [c0, k1] at h; exact h.symm
  by_cases c40 : (40 : Int) < env.length
  · simp (maxDischargeDepth := 40) [c0, hle, c40, k1] at h; exact h.symm
  have hl1 : R Zbu [.ptr g 0] H1 = some (.int .i64 ns.length, H1) := by
    obtain ⟨o1, o2, o3, t, -⟩ := G1
    exact len_run t
  have hpl := fun H => place_run (k := id) (n := ns.length) (by omega) (by omega) (H := H)
  have hm0 := Int.emod_nonneg id (by omega : (ns.length : Int) ≠ 0)
  have hm1 := Int.emod_lt_of_pos id (by omega : 0 < (ns.length : Int))
  have w1 : IntKind.i64.wrap (1 + id % ns.length) = 1 + id % ns.length := i64w (by omega) (by omega)
  simp (maxDischargeDepth := 40) [c0, hle, c40, hl1, hpl, w1] at h
  obtain ⟨J, hJ⟩ : ∃ J, J = 1 + id % (ns.length : Int) := ⟨_, rfl⟩
  rw [← hJ] at h
  have J1 : 1 ≤ J := by omega
  have J2 : J ≤ ns.length := by omega
  obtain ⟨f, hf⟩ : ∃ f : Nat, (4096 : Int) + 2 ≤ f := ⟨5000, by decide⟩
  have S1 : Sg H H1 g 4096 ns F := ⟨G1, k1, f1⟩
  have n1 := S1.node J
  obtain ⟨x, hx⟩ : ∃ x, x = ndF ns J := ⟨_, rfl⟩
  rw [← hx] at n1
  simp only [Nd.parts'] at n1
  obtain ⟨HX, hX⟩ : ∃ HX, HX = ((((H1.new (.cells [.int .i64 0, .int .i64 0, .int .i64 0, .int .i64 0, .int .i64 0, .int .i64 0, .int .i64 0, .int .i64 0, u 0#64, u 0#64, .str .empty])).set H1.size (.cells [.int .i64 x.op, .int .i64 x.sort, .int .i64 x.a, .int .i64 x.b, .int .i64 x.c, .int .i64 x.p, .int .i64 x.q, .int .i64 x.vw, u x.vl, u x.vh, .str x.name])).new (.cells [.int .i64 0, .int .i64 0, .int .i64 0, .int .i64 0, .int .i64 0, .int .i64 0, .int .i64 0, .int .i64 0, u 0#64, u 0#64, .str .empty])).set (H1.size + 1) (.cells [.int .i64 x.op, .int .i64 x.sort, .int .i64 x.a, .int .i64 x.b, .int .i64 x.c, .int .i64 x.p, .int .i64 x.q, .int .i64 x.vw, u x.vl, u x.vh, .str x.name])).new (.cells [.int .i64 x.a, .int .i64 x.b, .int .i64 x.c]) := ⟨_, rfl⟩
  have kX : Keeps H1 HX := by rw [hX]; ((repeat (first | exact Keeps.refl _ | assumption | refine Keeps.new' ?_ _ | refine Keeps.set ?_ ?_ _)) <;> (first | assumption | (simp; done) | (simp; omega)))
  have oX1 : HX.obj (H1.size + 1) = (.cells [.int .i64 x.op, .int .i64 x.sort, .int .i64 x.a, .int .i64 x.b, .int .i64 x.c, .int .i64 x.p, .int .i64 x.q, .int .i64 x.vw, u x.vl, u x.vh, .str x.name]) := by rw [hX]; simp
  have oX2 : HX.obj (H1.size + 2) = .cells [.int .i64 x.a, .int .i64 x.b, .int .i64 x.c] := by rw [hX]; simp
  have sX : HX.size = H1.size + 3 := by rw [hX]; simp
  have hsz := S1.k.size
  have hltF : ∀ p, p ∈ F → p < H1.size := fun p hp => S1.G.ltF hp
  simp (maxDischargeDepth := 40) [n1, ← hX] at h
  generalize hL : loopL _ _ _ _ _ _ = q at h
  obtain ⟨y, e1, H2, rfl, ⟨k2, hy⟩, fr⟩ := within_loop (S1.keep kX) gok J1 J2 (o := H1.size + 2) (by omega) (by omega) (fun hp => by have := hltF _ hp; omega) (by rw [oX2, hx]) hL (by simp) (by simp) (by simp)
  rcases hy with ⟨rfl, y6⟩ | ⟨rfl, js, F2, t, a, b, c, S2, g2, ht, -, k3, o2, n2, ka, kb, kc⟩
  · simp (maxDischargeDepth := 40) [y6, k2] at h
    exact h.symm
  have hsz2 := k3.size
  have o1 : H2.obj (H1.size + 1) = (.cells [.int .i64 x.op, .int .i64 x.sort, .int .i64 x.a, .int .i64 x.b, .int .i64 x.c, .int .i64 x.p, .int .i64 x.q, .int .i64 x.vw, u x.vl, u x.vh, .str x.name]) := by
    rw [k3.obj (H1.size + 1) (by omega) (fun hp => by
      rcases List.mem_cons.1 hp with h | h
      · omega
      · have := hltF _ h; omega)]
    exact oX1
  have l1 : H1.size + 1 < H2.size := by omega
  have l2 : H1.size + 2 < H2.size := by omega
  obtain ⟨H3, hH3⟩ : ∃ H3, H3 = ((H2.set (H1.size + 1) (.cells [.int .i64 x.op, .int .i64 x.sort, .int .i64 a, .int .i64 x.b, .int .i64 x.c, .int .i64 x.p, .int .i64 x.q, .int .i64 x.vw, u x.vl, u x.vh, .str x.name])).set (H1.size + 1) (.cells [.int .i64 x.op, .int .i64 x.sort, .int .i64 a, .int .i64 b, .int .i64 x.c, .int .i64 x.p, .int .i64 x.q, .int .i64 x.vw, u x.vl, u x.vh, .str x.name])).set (H1.size + 1) (.cells [.int .i64 x.op, .int .i64 x.sort, .int .i64 a, .int .i64 b, .int .i64 c, .int .i64 x.p, .int .i64 x.q, .int .i64 x.vw, u x.vl, u x.vh, .str x.name]) := ⟨_, rfl⟩
  have o3 : H3.obj (H1.size + 1) = (.cells [.int .i64 x.op, .int .i64 x.sort, .int .i64 a, .int .i64 b, .int .i64 c, .int .i64 x.p, .int .i64 x.q, .int .i64 x.vw, u x.vl, u x.vh, .str x.name]) := by rw [hH3]; simp
  have l3 : H1.size + 1 < H3.size := by rw [hH3]; simp [l1]
  have S3 : Sg H H3 g 4096 js F2 := by
    have hno : ¬ H1.size + 1 ∈ F2 := fun hp => by
      rcases n2 _ hp with h | h
      · have := hltF _ h; omega
      · omega
    rw [hH3]
    exact ((S2.put (by omega) hno _).put (by omega) hno _).put (by omega) hno _
  simp (maxDischargeDepth := 40) [fr, o1, o2, ← hH3, o3] at h
  obtain ⟨m, hm⟩ : ∃ m : Nd, m = { x with a := a, b := b, c := c } := ⟨_, rfl⟩
  obtain ⟨q1, q2, -, -⟩ := next3 gok g2 ht J1 J2 ka kb kc
  rw [← hx, ← hm] at q1 q2
  have hlim := S3.G.lim
  obtain ⟨gmk, hmk⟩ := mak_ok (most := 4096) g2 q1 (by rw [q2])
  obtain ⟨js2, to, er, hmke⟩ : ∃ js2 to er, makT 4096 js m = (js2, to, er) := ⟨_, _, _, rfl⟩
  rw [hmke] at gmk hmk
  rw [q2] at hmk
  simp only at gmk hmk
  generalize hN : R Zo _ _ = q at h
  have hN2 : R Zo [.ptr g 0, .agg m.cs] H3 = q := by rw [hm]; exact hN
  clear hN
  obtain ⟨H4, F4, rfl, S4⟩ := S3.make (n := m) hmke hN2
  simp (maxDischargeDepth := 40) [fr] at h
  generalize hN : R Zw _ _ = q at h
  obtain ⟨H5, F5, js3, rfl, S5, k45, ok⟩ := S4.simp gmk hf hN
  rcases hmk with ⟨rfl, ⟨t2, ht2, -⟩, T1, T2, hnd⟩ | ⟨rfl, rfl, rfl⟩
  rotate_left
  · rw [simT_none] at h
    simp (maxDischargeDepth := 40) [S5.k] at h
    exact h.symm
  have hsim := simT_ok (most := 4096) (f := f) gmk T1 T2 (Int.le_refl _) S4.G.lim.1 hf
  obtain ⟨X, hX'⟩ : ∃ X, X = simT 4096 f js2 to := ⟨_, rfl⟩
  rw [← hX'] at h ok hsim
  rcases hsim with ⟨h0, S⟩ | h33
  rotate_left
  · simp (maxDischargeDepth := 40) [h33, S5.k] at h
    exact h.symm
  obtain rfl := ok h0
  obtain ⟨t3, ht3, -⟩ := S.more
  have hle2 : js.length ≤ js2.length := by rw [ht2]; simp
  have hle3 : js2.length ≤ X.1.length := by rw [ht3]; simp
  have hle1 : ns.length ≤ js.length := by rw [ht]; simp
  have s1 := S.lo
  have s2 := S.hi
  have hval : ∀ look, AllFit look X.1 → worthS look X.1 J = (V look X.1 X.2.1, 0) ∧ worthS look X.1 to = (V look X.1 X.2.1, 0) ∧ worthS look X.1 X.2.1 = (V look X.1 X.2.1, 0) := fun look hA => by
    have hA2 : AllFit look js2 := by rw [ht3] at hA; exact hA.less
    have hA1 : AllFit look ns := by rw [ht2, ht, List.append_assoc] at hA2; exact hA2.less
    have e2 : V look X.1 to = V look X.1 X.2.1 := by rw [S.val look hA2, ht3, V_more T2]
    have e1 : V look X.1 J = V look X.1 X.2.1 := by
      rw [S.val look hA2]
      obtain ⟨i, hi, hni⟩ := nd_at T1 T2
      rw [hnd] at hni
      have hv := V_node (look := look) gmk.kok hni
      rw [← hi] at hv
      obtain ⟨-, -, -, q4⟩ := next3 gok gmk (by rw [ht2, ht, List.append_assoc]) J1 J2 (ka.more ht2) (kb.more ht2) (kc.more ht2)
      have q4 := q4 look hA1
      rw [← hx, ← hm] at q4
      rw [hv, q4, ht3, V_more (by omega : J ≤ js2.length), ht2, V_more (by omega : J ≤ js.length), ht, V_more J2]
    refine ⟨?_, ?_, worth_at hA s1 s2⟩
    · rw [worth_at hA J1 (by omega), e1]
    · rw [worth_at hA T1 (by omega), e2]
  have hlim5 := S5.G.lim
  obtain ⟨w, hfew, hw⟩ := few_run (N := 7) S5.G S.gok
  obtain ⟨cv, hc, hcr⟩ := complete_run S5.G (hs H5) (by omega)
  by_cases cw : widthF 7 (vnodes X.1) 0 ≤ 7
  · simp (maxDischargeDepth := 40) [h0, hfew, hc, cw, fr] at h
    generalize hL : loopL _ _ _ _ _ _ = q at h
    obtain ⟨yy, e3, H6, rfl, ⟨rfl, k6⟩, -⟩ := within_all S5.G S.gok cw hw (by omega) hval hL (by simp [fr]) (by simp [fr]) (by simp) (by simp) (by simp) (by simp) (by simp)
    simp (maxDischargeDepth := 40) [S5.k.trans k6] at h
    exact h.symm
  · obtain ⟨fl, hfl⟩ : ∃ fl, fl = fullS (lookL env) X.1 (varsT X.1 X.1.length) := ⟨_, rfl⟩
    have hfit := full_fit (look := lookL env) S.gok
    have hfll : fl.length ≤ 1000000 := by
      have := varsT_len X.1 X.1.length
      rw [hfl]
      unfold fullS
      rw [List.length_map]
      omega
    rw [← hfl] at hfit hcr
    simp (maxDischargeDepth := 40) [h0, hfew, hc, cw, fr] at h
    generalize hL : loopL _ _ _ _ _ _ = q at h
    obtain ⟨yy, e3, H6, rfl, ⟨rfl, k6⟩, -⟩ := within_once S5.G S.gok hcr hfll (hval _ hfit) hL (by simp [fr]) (by simp [fr]) (by simp) (by simp) (by simp) (by simp) (by simp)
    simp (maxDischargeDepth := 40) [S5.k.trans k6] at h
    exact h.symm
end Go.Proofs.Ytiobohfiaapgeaa
end
section
namespace Go.Proofs.Ytiobohfiaapgeaa
set_option maxRecDepth 100000
theorem tv_int {d : Nat} {a : AV} (h : TV Try.prog (d + 1) 3 a) : ∃ n, a = .int .i64 n ∧ -9223372036854775808 ≤ n ∧ n ≤ 9223372036854775807 := tv_i64 Try.underlying3 h
theorem cs3 {cs : List AV} (h : cs.length = 3) : ∃ x0 x1 x2, cs = [x0, x1, x2] := by
  match cs, h with
  | [x0, x1, x2], _ => exact ⟨x0, x1, x2, rfl⟩
theorem tc_bits {d : Nat} {cs : List AV} (h : TC Try.prog (d + 2) 37 cs) : ∃ v : Vl, cs = v.cs := by
  have c3 : Try.prog.cellsOf 37 = 3 := by kernel_rfl
  have c1 : Try.prog.cellsOf 3 = 1 := by kernel_rfl
  have cu : Try.prog.cellsOf 35 = 1 := by kernel_rfl
  obtain ⟨hl, hf⟩ := tc_struct Try.underlying37 h
  rw [c3] at hl
  obtain ⟨x0, x1, x2, rfl⟩ := cs3 hl
  simp [c1, cu] at hf
  obtain ⟨g0, g1, g2⟩ := hf
  obtain ⟨n0, e0, -⟩ := tc_i64 Try.underlying3 g0
  obtain ⟨y1, e1⟩ := tc_u64 Try.underlying35 g1
  obtain ⟨y2, e2⟩ := tc_u64 Try.underlying35 g2
  simp at e0 e1 e2
  exact ⟨⟨n0, mkN y1 y2⟩, by rw [e0, e1, e2, Vl.cs, lo_mk, hi_mk]⟩
theorem tv_bits {d : Nat} {a : AV} (h : TV Try.prog (d + 2) 37 a) : ∃ v : Vl, a = v.av := by
  obtain ⟨cs, rfl, h2⟩ := tv_struct Try.underlying37 h
  obtain ⟨v, rfl⟩ := tc_bits h2
  exact ⟨v, rfl⟩
theorem tv_vals {d : Nat} {a : AV} (h : TV Try.prog (d + 3) 86 a) : ∃ l : List Vl, ∀ H, RV H a l := by
  obtain ⟨n, ds, rfl, h2, h3, h4⟩ := tv_slice Try.underlying86 h
  have c3 : Try.prog.cellsOf 37 = 3 := by kernel_rfl
  rw [c3] at h2 h4
  obtain ⟨ss, e1, e2, -⟩ := chunks Vl.cs (fun _ => True) (fun _ => rfl) h2 fun i hi => by
    obtain ⟨v, hv⟩ := tc_bits (h4 i hi)
    exact ⟨v, trivial, hv⟩
  subst e2
  exact ⟨ss, fun H => by rw [c3]; subst e1; exact Reads.lst h2⟩
theorem ints_cells : ∀ ss : List Int, ss.flatMap (fun x : Int => [AV.int .i64 x]) = ss.map (.int .i64)
  | [] => rfl
  | x :: l => by rw [List.flatMap_cons, ints_cells l]; rfl
theorem tv_ints {d : Nat} {a : AV} (h : TV Try.prog (d + 2) 32 a) : ∃ l : List Int, (∀ H, RI H a l) ∧ ∀ x, x ∈ l → -9223372036854775808 ≤ x ∧ x ≤ 9223372036854775807 := by
  obtain ⟨n, ds, rfl, h2, h3, h4⟩ := tv_slice Try.underlying32 h
  have c1 : Try.prog.cellsOf 3 = 1 := by kernel_rfl
  rw [c1] at h2 h4
  obtain ⟨ss, e1, e2, e3⟩ := chunks (fun x : Int => [AV.int .i64 x]) (fun x => -9223372036854775808 ≤ x ∧ x ≤ 9223372036854775807) (fun _ => rfl) h2 fun i hi => by
    obtain ⟨n0, e0, b1, b2⟩ := tc_i64 Try.underlying3 (h4 i hi)
    exact ⟨n0, ⟨b1, b2⟩, e0⟩
  subst e2
  have e4 := ints_cells ss
  exact ⟨ss, fun H => by rw [c1]; subst e1; rw [e4] at h2 ⊢; exact Reads.lst h2, e3⟩
theorem cs4 {cs : List AV} (h : cs.length = 4) : ∃ x0 x1 x2 x3, cs = [x0, x1, x2, x3] := by
  match cs, h with
  | [x0, x1, x2, x3], _ => exact ⟨x0, x1, x2, x3, rfl⟩
theorem tv_named {d : Nat} {a : AV} (h : TV Try.prog (d + 4) 49 a) : ∃ l : List Nm, ∀ H, RN H a l := by
  obtain ⟨n, ds, rfl, h2, h3, h4⟩ := tv_slice Try.underlying49 h
  have c4 : Try.prog.cellsOf 77 = 4 := by kernel_rfl
  have c3 : Try.prog.cellsOf 37 = 3 := by kernel_rfl
  have c9 : Try.prog.cellsOf 9 = 1 := by kernel_rfl
  rw [c4] at h2 h4
  obtain ⟨ss, e1, e2, -⟩ := chunks Nm.cs (fun _ => True) (fun _ => rfl) h2 fun i hi => by
    have hs := h4 i hi
    generalize (ds.drop (i * 4)).take 4 = cs at hs
    obtain ⟨hl, hf⟩ := tc_struct Try.underlying77 hs
    rw [c4] at hl
    obtain ⟨x0, x1, x2, x3, rfl⟩ := cs4 hl
    simp [c3, c9] at hf
    obtain ⟨g0, g1⟩ := hf
    obtain ⟨s, e0, -⟩ := tc_str Try.underlying9 g0
    obtain ⟨v, hv⟩ := tc_bits g1
    simp at e0
    exact ⟨⟨s, v⟩, trivial, by rw [e0]; simp only [Nm.cs]; rw [← hv]⟩
  subst e2
  exact ⟨ss, fun H => by rw [c4]; subst e1; exact Reads.lst h2⟩
theorem cs11 {cs : List AV} (h : cs.length = 11) : ∃ x0 x1 x2 x3 x4 x5 x6 x7 x8 x9 x10, cs = [x0, x1, x2, x3, x4, x5, x6, x7, x8, x9, x10] := by
  match cs, h with
  | [x0, x1, x2, x3, x4, x5, x6, x7, x8, x9, x10], _ => exact ⟨x0, x1, x2, x3, x4, x5, x6, x7, x8, x9, x10, rfl⟩
theorem tc_node {d : Nat} {cs : List AV} (h : TC Try.prog (d + 3) 39 cs) : ∃ n : Nd, cs = n.cs := by
  have c11 : Try.prog.cellsOf 39 = 11 := by kernel_rfl
  have c1 : Try.prog.cellsOf 3 = 1 := by kernel_rfl
  have c3 : Try.prog.cellsOf 37 = 3 := by kernel_rfl
  have c9 : Try.prog.cellsOf 9 = 1 := by kernel_rfl
  obtain ⟨hl, hf⟩ := tc_struct Try.underlying39 h
  rw [c11] at hl
  obtain ⟨x0, x1, x2, x3, x4, x5, x6, x7, x8, x9, x10, rfl⟩ := cs11 hl
  simp [c1, c3, c9] at hf
  obtain ⟨g0, g1, g2, g3, g4, g5, g6, g7, g8⟩ := hf
  obtain ⟨n0, e0, -⟩ := tc_i64 Try.underlying3 g0
  obtain ⟨n1, e1, -⟩ := tc_i64 Try.underlying3 g1
  obtain ⟨n2, e2, -⟩ := tc_i64 Try.underlying3 g2
  obtain ⟨n3, e3, -⟩ := tc_i64 Try.underlying3 g3
  obtain ⟨n4, e4, -⟩ := tc_i64 Try.underlying3 g4
  obtain ⟨n5, e5, -⟩ := tc_i64 Try.underlying3 g5
  obtain ⟨n6, e6, -⟩ := tc_i64 Try.underlying3 g6
  obtain ⟨s, e10, -⟩ := tc_str Try.underlying9 g8
  obtain ⟨v, hv⟩ := tc_bits g7
  simp [Vl.cs] at e0 e1 e2 e3 e4 e5 e6 e10 hv
  exact ⟨⟨n0, n1, n2, n3, n4, n5, n6, v.w, lo v.n, hi v.n, s⟩, by rw [e0, e1, e2, e3, e4, e5, e6, e10, hv.1, hv.2.1, hv.2.2]; rfl⟩
theorem tv_nodes {d : Nat} {a : AV} (h : TV Try.prog (d + 4) 22 a) : ∃ l : List Nd, a = NL l := by
  obtain ⟨n, ds, rfl, h2, h3, h4⟩ := tv_slice Try.underlying22 h
  have c11 : Try.prog.cellsOf 39 = 11 := by kernel_rfl
  rw [c11] at h2 h4
  obtain ⟨ss, e1, e2, -⟩ := chunks Nd.cs (fun _ => True) (fun _ => rfl) h2 fun i hi => by
    obtain ⟨n, hn⟩ := tc_node (h4 i hi)
    exact ⟨n, trivial, hn⟩
  exact ⟨ss, by rw [NL, e2, c11, e1]; rfl⟩
end Go.Proofs.Ytiobohfiaapgeaa
end
section
namespace Go.Proofs.Ytiobohfiaapgeaa
set_option maxRecDepth 100000
theorem RewriteWithin_law {a0 a1 a2 : AV} (y0 : TV Try.prog 8 Zn a0) (y1 : TV Try.prog 8 Zd a1) (y2 : TV Try.prog 8 Z9 a2) : ∃ H', R Zbl [a0, a1, a2] H0 = some (.bool true, H') := by
  obtain ⟨l, rfl⟩ := tv_nodes (d := 4) y0
  obtain ⟨n1, rfl, -⟩ := tv_int (d := 7) y1
  obtain ⟨env, hs⟩ := tv_named (d := 4) y2
  exact ⟨_, within_run hs⟩
end Go.Proofs.Ytiobohfiaapgeaa
end
