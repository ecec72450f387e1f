/- The interpreter is right: maps. -/
import Derived.Test.YtphkkcocimmmfaaAL7
namespace Go.Proofs.Ytphkkcocimmmfaa
open Go.RowKit

section
variable {P : Program} {K : TypeId → Option (List Sc)}

def scV : Value → Value → Bool
  | .int _ a, .int _ b => a == b
  | .string a, .string b => a == b
  | .bool a, .bool b => a == b
  | _, _ => false

theorem sameNow_sc {S : St} {t : TypeId} {c : Sc} (h : keySh P K t = some (.one c)) {a b : AV} {x y : Value} (ha : VR S a x) (hb : VR S b y) (fa : c.fits a = true) (fb : c.fits b = true) :
    ∃ d, P.underlying t = some d ∧ Instr.sameNow d x y = some (scEq a b) := by
  unfold keySh at h
  split at h
  · rename_i k hu
    cases h
    cases a <;> simp [Sc.fits] at fa
    cases b <;> simp [Sc.fits] at fb
    subst fa; subst fb
    cases ha; cases hb
    exact ⟨_, hu, by simp [Instr.sameNow, scEq]⟩
  · rename_i hu
    cases h
    cases a <;> simp [Sc.fits] at fa
    cases b <;> simp [Sc.fits] at fb
    cases ha; cases hb
    exact ⟨_, hu, by simp [Instr.sameNow, scEq, ba_eq]⟩
  · rename_i hu
    cases h
    cases a <;> simp [Sc.fits] at fa
    cases b <;> simp [Sc.fits] at fb
    cases ha; cases hb
    exact ⟨_, hu, by simp [Instr.sameNow, scEq]⟩
  · rename_i hu; cases hk : K t <;> simp [hk] at h
  · rename_i hu; cases hk : K t <;> simp [hk] at h
  · cases h

theorem keySh_many {t : TypeId} {cs : List Sc} (h : keySh P K t = some (.many cs)) : K t = some cs ∧ ∃ d, P.underlying t = some d ∧ (∀ x y, Instr.sameNow d (.agg x) y = none) ∧ (∀ k, d ≠ .int k) ∧ d ≠ .string ∧ d ≠ .bool := by
  unfold keySh at h
  split at h
  · cases h
  · cases h
  · cases h
  · rename_i hu
    simp at h
    exact ⟨h, _, hu, fun x y => by simp [Instr.sameNow], by simp, by simp, by simp⟩
  · rename_i hu
    simp at h
    exact ⟨h, _, hu, fun x y => by simp [Instr.sameNow], by simp, by simp, by simp⟩
  · cases h

/-- What a search comes to: the first entry whose key is equal. -/
inductive Find (k : AV) : List AEnt → List MapEntry → Option (Nat × Value) → Prop
  | nil : Find k [] [] none
  | here (e : AEnt) (es : List AEnt) (m : MapEntry) (ms : List MapEntry) : keyEq k e.key = true → Find k (e :: es) (m :: ms) (some (0, m.val))
  | miss (e : AEnt) (es : List AEnt) (m : MapEntry) (ms : List MapEntry) : keyEq k e.key = false → Find k es ms none → Find k (e :: es) (m :: ms) none
  | later (e : AEnt) (es : List AEnt) (m : MapEntry) (ms : List MapEntry) (i : Nat) (v : Value) : keyEq k e.key = false → Find k es ms (some (i, v)) → Find k (e :: es) (m :: ms) (some (i + 1, v))

theorem EntR.find {S : St} {sh : KSh} (k : AV) {es : List AEnt} {ms : List MapEntry} (h : EntR S sh es ms) : ∃ r, Find k es ms r := by
  induction h with
  | nil => exact ⟨_, .nil⟩
  | cons e es m ms _ _ _ _ _ ih =>
    obtain ⟨r, hr⟩ := ih
    cases hk : keyEq k e.key with
    | true => exact ⟨_, .here e es m ms hk⟩
    | false =>
      cases r with
      | none => exact ⟨_, .miss e es m ms hk hr⟩
      | some r => exact ⟨_, .later e es m ms r.1 r.2 hk hr⟩

theorem findNow_of {S : St} {sh : KSh} {c : Sc} (hsh : sh = .one c) {t : TypeId} (h : keySh P K t = some sh) {k : AV} {x : Value} (hk : VR S k x) (fk : sh.fits k = true) {d : TypeDesc} (hd : P.underlying t = some d) {es : List AEnt} {ms : List MapEntry} (hE : EntR S sh es ms) {r} (hf : Find k es ms r) :
    ∀ i, Instr.findNow d x ms i = some (r.map fun (j, v) => (i + j, v)) := by
  subst hsh
  induction hf with
  | nil => intro i; rfl
  | here e es m ms hk' =>
    intro i
    cases hE with
    | cons _ _ _ _ h1 h2 h3 h4 h5 =>
      obtain ⟨d', hd', hs⟩ := sameNow_sc h hk h1 fk h4
      rw [hd] at hd'; cases hd'
      have : scEq k e.key = true := by
        cases k <;> cases hc : e.key <;> rw [hc] at hk' h4 <;> simp [keyEq, KSh.fits, Sc.fits] at hk' fk h4 ⊢ <;> (try exact hk') <;> (cases c <;> simp [Sc.fits] at fk h4)
      simp [Instr.findNow, hs, this]
  | miss e es m ms hk' _ ih =>
    intro i
    cases hE with
    | cons _ _ _ _ h1 h2 h3 h4 h5 =>
      obtain ⟨d', hd', hs⟩ := sameNow_sc h hk h1 fk h4
      rw [hd] at hd'; cases hd'
      have : scEq k e.key = false := by
        cases k <;> cases hc : e.key <;> rw [hc] at hk' h4 <;> simp [keyEq, KSh.fits, Sc.fits] at hk' fk h4 ⊢ <;> (try exact hk') <;> (cases c <;> simp [Sc.fits] at fk h4)
      simp only [Instr.findNow, hs, this]
      rw [ih h5 (i + 1)]
      rfl
  | later e es m ms j v hk' _ ih =>
    intro i
    cases hE with
    | cons _ _ _ _ h1 h2 h3 h4 h5 =>
      obtain ⟨d', hd', hs⟩ := sameNow_sc h hk h1 fk h4
      rw [hd] at hd'; cases hd'
      have : scEq k e.key = false := by
        cases k <;> cases hc : e.key <;> rw [hc] at hk' h4 <;> simp [keyEq, KSh.fits, Sc.fits] at hk' fk h4 ⊢ <;> (try exact hk') <;> (cases c <;> simp [Sc.fits] at fk h4)
      simp only [Instr.findNow, hs, this]
      rw [ih h5 (i + 1)]
      simp only [Option.map_some]
      rw [show i + 1 + j = i + (j + 1) from by omega]

theorem findAsking_of (hK : KeysOK P K) {S : St} {cs : List Sc} {t : TypeId} (h : K t = some cs) {k : List AV} {x : List Value} (hk : VRs S k x) (fk : conf cs k = true) (w : World) {es : List AEnt} {ms : List MapEntry} (hE : EntR S (.many cs) es ms) {r} (hf : Find (.agg k) es ms r) :
    ∀ i, (Instr.findAsking t (.agg x.toArray) ms i).run P w = .ok (r.map fun (j, v) => (i + j, v)) w := by
  induction hf with
  | nil => intro i; rfl
  | here e es m ms hk' =>
    intro i
    cases hE with
    | cons _ _ _ _ h1 h2 h3 h4 h5 =>
      cases hc : e.key <;> rw [hc] at h4 h1 hk' <;> simp [KSh.fits] at h4
      cases hm : m.key <;> rw [hm] at h1 <;> cases h1
      rename_i ys hs
      have := (hK t cs h).eq S w k _ x ys fk h4 hk hs
      simp only [keyEq] at hk'
      simp [Instr.findAsking, hm, this, hk']
  | miss e es m ms hk' _ ih =>
    intro i
    cases hE with
    | cons _ _ _ _ h1 h2 h3 h4 h5 =>
      cases hc : e.key <;> rw [hc] at h4 h1 hk' <;> simp [KSh.fits] at h4
      cases hm : m.key <;> rw [hm] at h1 <;> cases h1
      rename_i ys hs
      have := (hK t cs h).eq S w k _ x ys fk h4 hk hs
      simp only [keyEq] at hk'
      simp only [Instr.findAsking, hm, Sem.run_bind, this, hk', Result.andThen_ok, Bool.false_eq_true, if_false]
      rw [ih h5 (i + 1)]
      rfl
  | later e es m ms j v hk' _ ih =>
    intro i
    cases hE with
    | cons _ _ _ _ h1 h2 h3 h4 h5 =>
      cases hc : e.key <;> rw [hc] at h4 h1 hk' <;> simp [KSh.fits] at h4
      cases hm : m.key <;> rw [hm] at h1 <;> cases h1
      rename_i ys hs
      have := (hK t cs h).eq S w k _ x ys fk h4 hk hs
      simp only [keyEq] at hk'
      simp only [Instr.findAsking, hm, Sem.run_bind, this, hk', Result.andThen_ok, Bool.false_eq_true, if_false]
      rw [ih h5 (i + 1)]
      simp only [Option.map_some]
      rw [show i + 1 + j = i + (j + 1) from by omega]

/-- The search for a key comes to what the list says. -/
theorem findKey_of (hK : KeysOK P K) {S : St} {sh : KSh} {t : TypeId} (h : keySh P K t = some sh) {k : AV} {x : Value} (hk : VR S k x) (fk : sh.fits k = true) (w : World) {es : List AEnt} {ms : List MapEntry} (hE : EntR S sh es ms) {r} (hf : Find k es ms r) :
    (Instr.findKey t x ms).run P w = .ok r w := by
  cases sh with
  | one c =>
    have hd : ∃ d, P.underlying t = some d := by
      unfold keySh at h; split at h <;> first | exact ⟨_, ‹_›⟩ | cases h
    obtain ⟨d, hd⟩ := hd
    have := findNow_of rfl h hk fk hd hE hf 0
    simp only [Instr.findKey, Sem.run_bind, run_underlying hd, Result.andThen_ok, this, Sem.run_pure]
    cases r <;> simp
  | many cs =>
    obtain ⟨h1, d, hd, h2, _, _, _⟩ := keySh_many h
    cases k <;> simp [KSh.fits] at fk
    cases hk with
    | agg k x hs =>
      have := findAsking_of hK h1 hs fk w hE hf 0
      simp only [Instr.findKey, Sem.run_bind, run_underlying hd, Result.andThen_ok]
      cases ms with
      | nil => cases hf; simp [Instr.findNow]
      | cons m ms =>
        simp only [Instr.findNow, h2, this]
        cases r <;> simp

theorem checkKey_of (hK : KeysOK P K) {S : St} {sh : KSh} {t : TypeId} (h : keySh P K t = some sh) {k : AV} {x : Value} (hk : VR S k x) (fk : sh.fits k = true) (em : Bool) (w : World) : (Instr.checkKey em 10000 t x).run P w = .ok () w := by
  cases sh with
  | one c =>
    have key : (∀ d, (Instr.checkKey em (d + 1) t x).run P w = .ok () w) → (Instr.checkKey em 10000 t x).run P w = .ok () w := fun h => h 9999
    apply key
    intro d
    unfold keySh at h
    split at h
    · rename_i hu; simp [Instr.checkKey, run_underlying hu]
    · rename_i hu; simp [Instr.checkKey, run_underlying hu]
    · rename_i hu; simp [Instr.checkKey, run_underlying hu]
    · rename_i hu; cases hk : K t <;> simp [hk] at h
    · rename_i hu; cases hk : K t <;> simp [hk] at h
    · cases h
  | many cs =>
    obtain ⟨h1, _⟩ := keySh_many h
    cases k <;> simp [KSh.fits] at fk
    cases hk with
    | agg _ x hs => exact (hK t cs h1).chk S em w _ x fk hs

theorem Find.get {k : AV} {es : List AEnt} {ms : List MapEntry} {r} (h : Find k es ms r) : (r = none → findE k es = none) ∧ ∀ i v, r = some (i, v) → ∃ e m, findE k es = some e ∧ es[i]? = some e ∧ ms[i]? = some m ∧ v = m.val ∧ keyEq k e.key = true := by
  induction h with
  | nil => simp [findE]
  | here e es m ms hk => refine ⟨by simp, ?_⟩; intro i v h; cases h; exact ⟨e, m, by simp [findE, hk], rfl, rfl, rfl, hk⟩
  | miss e es m ms hk _ ih => simp [findE, hk, ih.1 rfl]
  | later e es m ms i v hk _ ih =>
    refine ⟨by simp, ?_⟩
    intro j u h
    cases h
    obtain ⟨e', m', h1, h2, h3, h4, h5⟩ := ih.2 i v rfl
    exact ⟨e', m', by simp [findE, hk, h1], by simpa using h2, by simpa using h3, h4, h5⟩

theorem EntR.at {S : St} {sh : KSh} {es : List AEnt} {ms : List MapEntry} (h : EntR S sh es ms) : ∀ {i : Nat} {e m}, es[i]? = some e → ms[i]? = some m → VR S e.key m.key ∧ VR S e.val m.val ∧ e.born = m.born ∧ sh.fits e.key = true := by
  induction h with
  | nil => intro i e m h; simp at h
  | cons e es m ms h1 h2 h3 h4 _ ih =>
    intro i e' m' he hm
    cases i with
    | zero => simp at he hm; subst he; subst hm; exact ⟨h1, h2, h3, h4⟩
    | succ i => simp at he hm; exact ih he hm

theorem EntR.set {S : St} {sh : KSh} {k v : AV} {x y : Value} (hk : VR S k x) (hv : VR S v y) (fk : sh.fits k = true) {es : List AEnt} {ms : List MapEntry} {r} (hf : Find k es ms r) : EntR S sh es ms → ∀ i u, r = some (i, u) → EntR S sh (setE k v es) (ms.modify i fun m => { m with key := x, val := y }) := by
  induction hf with
  | nil => intro _ i u h; cases h
  | here e es m ms hk' =>
    intro h i u hr
    cases hr
    cases h with
    | cons _ _ _ _ h1 h2 h3 h4 h5 =>
      simp only [setE, hk', if_true, List.modify_zero_cons]
      exact .cons _ _ _ _ hk hv h3 fk h5
  | miss => intro _ i u h; cases h
  | later e es m ms j u' hk' _ ih =>
    intro h i u hr
    cases hr
    cases h with
    | cons _ _ _ _ h1 h2 h3 h4 h5 =>
      simp only [setE, hk', Bool.false_eq_true, if_false, List.modify_succ_cons]
      exact .cons _ _ _ _ h1 h2 h3 h4 (ih h5 j u' rfl)

theorem EntR.drop {S : St} {sh : KSh} {k : AV} {es : List AEnt} {ms : List MapEntry} {r} (hf : Find k es ms r) : EntR S sh es ms → (∀ i u, r = some (i, u) → EntR S sh (dropE k es) (ms.eraseIdx i)) ∧ (r = none → dropE k es = es) := by
  induction hf with
  | nil => intro _; exact ⟨fun i u h => (by cases h), fun _ => rfl⟩
  | here e es m ms hk' =>
    intro h
    cases h with
    | cons _ _ _ _ h1 h2 h3 h4 h5 =>
      refine ⟨fun i u hr => ?_, fun hr => by cases hr⟩
      cases hr
      simpa [dropE, hk'] using h5
  | miss e es m ms hk' _ ih =>
    intro h
    cases h with
    | cons _ _ _ _ h1 h2 h3 h4 h5 => exact ⟨fun i u hr => (by cases hr), fun _ => by simp [dropE, hk', (ih h5).2 rfl]⟩
  | later e es m ms j u' hk' _ ih =>
    intro h
    cases h with
    | cons _ _ _ _ h1 h2 h3 h4 h5 =>
      refine ⟨fun i u hr => ?_, fun hr => by cases hr⟩
      cases hr
      simp only [dropE, hk', Bool.false_eq_true, if_false, List.eraseIdx_cons_succ]
      exact .cons _ _ _ _ h1 h2 h3 h4 ((ih h5).1 j u' rfl)

theorem EntR.push {S : St} {sh : KSh} {es : List AEnt} {ms : List MapEntry} (h : EntR S sh es ms) {e : AEnt} {m : MapEntry} (h1 : VR S e.key m.key) (h2 : VR S e.val m.val) (h3 : e.born = m.born) (h4 : sh.fits e.key = true) : EntR S sh (es ++ [e]) (ms ++ [m]) := by
  induction h with
  | nil => exact .cons _ _ _ _ h1 h2 h3 h4 .nil
  | cons e' es m' ms g1 g2 g3 g4 _ ih => exact .cons _ _ _ _ g1 g2 g3 g4 ih

theorem EntR.length {S : St} {sh : KSh} {es : List AEnt} {ms : List MapEntry} (h : EntR S sh es ms) : es.length = ms.length := by
  induction h with
  | nil => rfl
  | cons _ _ _ _ _ _ _ _ _ ih => simp [ih]

theorem sameBits_sc {S : St} {a b : AV} {x y : Value} (ha : VR S a x) (hb : VR S b y) (h : scEq a b = true) {c : Sc} (fa : c.fits a = true) (fb : c.fits b = true) (n : Nat) : Instr.sameBits n y x = true := by
  cases a <;> cases b <;> simp [scEq] at h
  · cases ha; cases hb; subst h; cases n <;> simp [Instr.sameBits]
  · cases ha; cases hb; subst h
    cases c <;> simp [Sc.fits] at fa fb
    subst fa; subst fb
    cases n <;> simp [Instr.sameBits]
  · cases ha; cases hb; subst h; cases n <;> simp [Instr.sameBits, ba_eq]

theorem sameBits_scs {S : St} (n : Nat) : ∀ {cs : List Sc} {as bs : List AV} {xs ys : List Value}, conf cs as = true → conf cs bs = true → VRs S as xs → VRs S bs ys → scsEq as bs = true → xs.length = ys.length ∧ ((ys.zip xs).all fun (x, y) => Instr.sameBits n x y) = true
  | [], [], [], _, _, _, _, .nil, .nil, _ => by simp
  | c :: cs, a :: as, b :: bs, _, _, h1, h2, .cons _ x _ xs ha hs, .cons _ y _ ys hb hs', he => by
    simp [conf] at h1 h2
    simp [scsEq] at he
    obtain ⟨e1, e2⟩ := sameBits_scs n h1.2 h2.2 hs hs' he.2
    refine ⟨by simp [e1], ?_⟩
    simp only [List.zip_cons_cons, List.all_cons, Bool.and_eq_true]
    exact ⟨sameBits_sc ha hb he.1 h1.1 h2.1 n, e2⟩
  | [], _ :: _, _, _, _, h, _, _, _, _ => by simp [conf] at h
  | [], [], _ :: _, _, _, _, h, _, _, _ => by simp [conf] at h
  | _ :: _, [], _, _, _, h, _, _, _, _ => by simp [conf] at h
  | _ :: _, _ :: _, [], _, _, _, h, _, _, _ => by simp [conf] at h

theorem keyStays {S : St} {sh : KSh} {k k' : AV} {x y : Value} (hk : VR S k x) (hk' : VR S k' y) (f : sh.fits k = true) (f' : sh.fits k' = true) (he : keyEq k k' = true) (w : World) : (Instr.keyThatStays y x).run P w = .ok x w := by
  have key : Instr.sameBits 10000 y x = true := by
    have gen : (∀ d, Instr.sameBits (d + 1) y x = true) → Instr.sameBits 10000 y x = true := fun h => h 9999
    apply gen
    intro d
    cases sh with
    | one c =>
      have : scEq k k' = true := by
        cases k <;> cases k' <;> simp [keyEq, KSh.fits, Sc.fits] at he f f' ⊢ <;> (try exact he) <;> (cases c <;> simp [Sc.fits] at f f')
      exact sameBits_sc hk hk' this f f' _
    | many cs =>
      cases k <;> simp [KSh.fits] at f
      cases k' <;> simp [KSh.fits] at f'
      cases hk with
      | agg _ xs hs =>
        cases hk' with
        | agg _ ys hs' =>
          obtain ⟨e1, e2⟩ := sameBits_scs (S := S) d f f' hs hs' he
          simp only [Instr.sameBits, Bool.and_eq_true, beq_iff_eq, List.size_toArray]
          exact ⟨e1.symm, e2⟩
  simp [Instr.keyThatStays, key]

theorem mapObj {S : St} (hS : Sim S) {o : Nat} (ho : o < S.H.size) {sh : KSh} {es : List AEnt} {clock : Nat} (hobj : S.H.obj o = .map sh es clock) : ∃ ms : List MapEntry, S.w.heap[(S.ι o).1]? = some (.map ms.toArray clock) ∧ EntR S sh es ms := by
  have := hS.objs o ho
  rw [hobj] at this
  cases this with
  | map _ _ ms _ h1 h2 => exact ⟨ms, h1, h2⟩

theorem run_getMap {w : World} {b : Nat} {ms : Array MapEntry} {c : Nat} (h : w.heap[b]? = some (.map ms c)) : (getObj b).run P w = .ok (.map ms c) w := by
  simp [getObj, Sem.run, h]
theorem run_setMap {w : World} {b : Nat} {ms : Array MapEntry} {c : Nat} (h : w.heap[b]? = some (.map ms c)) (o : Obj) : (setObj b o).run P w = .ok () { w with heap := w.heap.setIfInBounds b o } := by
  simp [setObj, Sem.run, h]

theorem keySh_under {t : TypeId} {sh : KSh} (h : keySh P K t = some sh) : ∃ d, P.underlying t = some d := by
  unfold keySh at h
  split at h <;> first | exact ⟨_, ‹_›⟩ | cases h

theorem alookup_sound (hK : KeysOK P K) {S : St} (hS : Sim S) {t : TypeId} {m k v : AV} {x y : Value} {ok : Bool} (hm : VR S m x) (hk : VR S k y) (h : alookup P K S.H t m k ok = some v) :
    ∃ z, (Instr.lookup t x y ok).run P S.w = .ok z S.w ∧ VR S v z := by
  unfold alookup at h
  split at h <;> first | (cases h; done) | skip
  rename_i kt e hu
  simp only [Option.bind_eq_some_iff] at h
  obtain ⟨sh, hsh, z, hz, h⟩ := h
  obtain ⟨zv, hzv, hvz⟩ := tZV_some S hz
  split at h <;> first | (cases h; done) | skip
  rename_i fk
  have hck := fun em => checkKey_of hK hsh hk fk em S.w
  split at h <;> first | (cases h; done) | skip
  · cases hm
    cases h
    have hfk := findKey_of hK hsh hk fk S.w (.nil) (.nil)
    cases ok
    · exact ⟨zv, by simp [Instr.lookup, run_underlying hu, hck, hfk, hzv], by simpa using hvz⟩
    · exact ⟨.tuple [zv, .bool false].toArray, by simp [Instr.lookup, run_underlying hu, hck, hfk, hzv], .tup _ _ (.cons _ _ _ _ hvz (.cons _ _ _ _ (.bool _) .nil))⟩
  · rename_i o
    cases hm with
    | map _ ho =>
      split at h <;> first | (cases h; done) | skip
      rename_i sh' es clock hobj
      split at h <;> first | (cases h; done) | skip
      rename_i hsh'
      subst hsh'
      obtain ⟨ms, hb, hE⟩ := mapObj hS ho hobj
      obtain ⟨r, hf⟩ := hE.find k
      have hfk := findKey_of hK hsh hk fk S.w hE hf
      have hget := run_getMap (P := P) hb
      cases r with
      | none =>
        rw [hf.get.1 rfl] at h
        cases h
        cases ok
        · exact ⟨zv, by simp [Instr.lookup, run_underlying hu, hget, hck, hfk, hzv], by simpa using hvz⟩
        · exact ⟨.tuple [zv, .bool false].toArray, by simp [Instr.lookup, run_underlying hu, hget, hck, hfk, hzv], .tup _ _ (.cons _ _ _ _ hvz (.cons _ _ _ _ (.bool _) .nil))⟩
      | some r =>
        obtain ⟨i, u⟩ := r
        obtain ⟨e', m', h1, h2, h3, h4, h5⟩ := hf.get.2 i u rfl
        rw [h1] at h
        cases h
        have hat := hE.at h2 h3
        subst h4
        cases ok
        · exact ⟨m'.val, by simp [Instr.lookup, run_underlying hu, hget, hck, hfk], by simpa using hat.2.1⟩
        · exact ⟨.tuple [m'.val, .bool true].toArray, by simp [Instr.lookup, run_underlying hu, hget, hck, hfk], .tup _ _ (.cons _ _ _ _ hat.2.1 (.cons _ _ _ _ (.bool _) .nil))⟩

theorem modify_toArray {ms : List MapEntry} {i : Nat} {f : MapEntry → MapEntry} : (ms.toArray.modify i f) = (ms.modify i f).toArray := by
  simp

theorem amapUpdate_sound (hK : KeysOK P K) {S : St} (hS : Sim S) {t : TypeId} {m k v : AV} {x y z : Value} {H' : AHeap} (hm : VR S m x) (hk : VR S k y) (hv : VR S v z) (h : amapUpdate P K S.H t m k v = some H') :
    ∃ T : St, (Instr.mapUpdate t x y z).run P S.w = .ok () T.w ∧ T.H = H' ∧ Sim T ∧ Ext S T := by
  unfold amapUpdate at h
  split at h <;> first | (cases h; done) | skip
  rename_i kt e hu
  simp only [Option.bind_eq_some_iff] at h
  obtain ⟨sh, hsh, h⟩ := h
  split at h <;> first | (cases h; done) | skip
  rename_i fk
  have hck := fun em => checkKey_of hK hsh hk fk em S.w
  split at h <;> first | (cases h; done) | skip
  rename_i o
  cases hm with
  | map _ ho =>
    split at h <;> first | (cases h; done) | skip
    rename_i sh' es clock hobj
    split at h <;> first | (cases h; done) | skip
    rename_i hsh'
    subst hsh'
    obtain ⟨ms, hb, hE⟩ := mapObj hS ho hobj
    obtain ⟨r, hf⟩ := hE.find k
    have hfk := findKey_of hK hsh hk fk S.w hE hf
    have hget := run_getMap (P := P) hb
    cases r with
    | none =>
      rw [hf.get.1 rfl] at h
      cases h
      have hE' := hE.push (e := ⟨k, v, clock⟩) (m := ⟨y, z, clock⟩) hk hv rfl fk
      obtain ⟨g1, g2⟩ := put_map hS ho hobj hb (clock' := clock + 1) hE'
      refine ⟨_, ?_, rfl, g1, g2⟩
      have hset := run_setMap (P := P) hb (.map (ms ++ [(⟨y, z, clock⟩ : MapEntry)]).toArray (clock + 1))
      simp [Instr.mapUpdate, run_underlying hu, hget, hck, hfk]
      simpa [St.put] using hset
    | some r =>
      obtain ⟨i, u⟩ := r
      obtain ⟨e', m', h1, h2, h3, h4, h5⟩ := hf.get.2 i u rfl
      rw [h1] at h
      cases h
      have hat := hE.at h2 h3
      have hE' := hE.set hk hv fk hf i u rfl
      obtain ⟨g1, g2⟩ := put_map hS ho hobj hb (clock' := clock) hE'
      have hstay := keyStays hk hat.1 fk hat.2.2.2 h5 S.w (P := P)
      refine ⟨_, ?_, rfl, g1, g2⟩
      have hset := run_setMap (P := P) hb (.map (ms.modify i fun m => { m with key := y, val := z }).toArray clock)
      simp [Instr.mapUpdate, run_underlying hu, hget, hck, hfk, h3, hstay]
      simpa [St.put] using hset

theorem amapEntry_sound (hK : KeysOK P K) {S : St} (hS : Sim S) {t : TypeId} {m k v : AV} {x y : Value} {H' : AHeap} (hm : VR S m x) (hk : VR S k y) (h : amapEntry P K S.H t m k = some (v, H')) :
    ∃ (T : St) (r : Value), (Instr.mapEntry t x y).run P S.w = .ok r T.w ∧ T.H = H' ∧ Sim T ∧ Ext S T ∧ VR T v r := by
  unfold amapEntry at h
  split at h <;> first | (cases h; done) | skip
  rename_i kt e hu
  simp only [Option.bind_eq_some_iff] at h
  obtain ⟨sh, hsh, zz, hz, h⟩ := h
  obtain ⟨zv, hzv, hvz⟩ := tZV_some S hz
  split at h <;> first | (cases h; done) | skip
  rename_i fk
  have hck := fun em => checkKey_of hK hsh hk fk em S.w
  split at h <;> first | (cases h; done) | skip
  rename_i o
  cases hm with
  | map _ ho =>
    split at h <;> first | (cases h; done) | skip
    rename_i sh' es clock hobj
    split at h <;> first | (cases h; done) | skip
    rename_i hsh'
    subst hsh'
    obtain ⟨ms, hb, hE⟩ := mapObj hS ho hobj
    obtain ⟨r, hf⟩ := hE.find k
    have hfk := findKey_of hK hsh hk fk S.w hE hf
    have hget := run_getMap (P := P) hb
    cases r with
    | none =>
      rw [hf.get.1 rfl] at h
      cases h
      have hE' := hE.push (e := ⟨k, zz, clock⟩) (m := ⟨y, zv, clock⟩) hk hvz rfl fk
      obtain ⟨g1, g2⟩ := put_map hS ho hobj hb (clock' := clock + 1) hE'
      refine ⟨_, .tuple [zv, .int .i64 clock].toArray, ?_, rfl, g1, g2, .tup _ _ (.cons _ _ _ _ (hvz.ext g2) (.cons _ _ _ _ (.int _ _) .nil))⟩
      have hset := run_setMap (P := P) hb (.map (ms ++ [(⟨y, zv, clock⟩ : MapEntry)]).toArray (clock + 1))
      simp [Instr.mapEntry, run_underlying hu, hget, hck, hfk, hzv, goInt]
      simp [hset, St.put]
    | some r =>
      obtain ⟨i, u⟩ := r
      obtain ⟨e', m', h1, h2, h3, h4, h5⟩ := hf.get.2 i u rfl
      rw [h1] at h
      cases h
      have hat := hE.at h2 h3
      have hE' := hE.set hk hat.2.1 fk hf i u rfl
      obtain ⟨g1, g2⟩ := put_map hS ho hobj hb (clock' := clock) hE'
      have hstay := keyStays hk hat.1 fk hat.2.2.2 h5 S.w (P := P)
      subst h4
      refine ⟨_, .tuple [m'.val, .int .i64 e'.born].toArray, ?_, rfl, g1, g2, .tup _ _ (.cons _ _ _ _ (hat.2.1.ext g2) (.cons _ _ _ _ (.int _ _) .nil))⟩
      have hmod : (ms.modify i fun m => { m with key := y, val := m'.val }) = ms.modify i fun m => { m with key := y } := by
        apply List.ext_getElem?
        intro j
        rw [List.getElem?_modify, List.getElem?_modify]
        by_cases hj : i = j
        · subst hj; simp [h3]
        · simp [hj]
      have hset := run_setMap (P := P) hb (.map (ms.modify i fun m => { m with key := y, val := m'.val }).toArray clock)
      simp [Instr.mapEntry, run_underlying hu, hget, hck, hfk, h3, hstay, goInt, hat.2.2.1]
      rw [hmod] at hset
      simp [hset, St.put, hmod]

theorem EntR.stamp {S : St} {sh : KSh} {v : AV} {y : Value} (hv : VR S v y) (n : Int) {es : List AEnt} {ms : List MapEntry} (h : EntR S sh es ms) : (es.any fun e => (e.born : Int) == n) = true →
    ∃ i, ms.findIdx? (fun e => (e.born : Int) == n) = some i ∧ EntR S sh (stampE n v es) (ms.modify i fun m => { m with val := y }) := by
  induction h with
  | nil => intro h; simp at h
  | cons e es m ms h1 h2 h3 h4 h5 ih =>
    intro h
    by_cases hb : ((e.born : Int) == n) = true
    · have hb' : ((m.born : Int) == n) = true := by rw [← h3]; exact hb
      refine ⟨0, by simp [List.findIdx?_cons, hb'], ?_⟩
      simp only [stampE, hb, if_true, List.modify_zero_cons]
      exact .cons _ _ _ _ h1 hv h3 h4 h5
    · have hb' : ((m.born : Int) == n) = false := by rw [← h3]; simpa using hb
      simp only [List.any_cons, hb, Bool.false_or] at h
      obtain ⟨i, hi, hE⟩ := ih h
      refine ⟨i + 1, by simp [List.findIdx?_cons, hb', hi], ?_⟩
      simp only [stampE, hb, if_false, Bool.false_eq_true, List.modify_succ_cons]
      exact .cons _ _ _ _ h1 h2 h3 h4 hE

theorem aentryStore_sound {S : St} (hS : Sim S) {t : TypeId} {m v : AV} {x z : Value} {n : Int} {k : IntKind} {H' : AHeap} (hm : VR S m x) (hv : VR S v z) (h : aentryStore S.H m n v = some H') :
    ∃ T : St, (Instr.entryStore t x (.int k n) z).run P S.w = .ok () T.w ∧ T.H = H' ∧ Sim T ∧ Ext S T := by
  unfold aentryStore at h
  split at h <;> first | (cases h; done) | skip
  rename_i o
  cases hm with
  | map _ ho =>
    split at h <;> first | (cases h; done) | skip
    rename_i sh es clock hobj
    split at h <;> first | (cases h; done) | skip
    rename_i hany
    cases h
    obtain ⟨ms, hb, hE⟩ := mapObj hS ho hobj
    have hget := run_getMap (P := P) hb
    obtain ⟨i, hi, hE'⟩ := hE.stamp hv n hany
    obtain ⟨g1, g2⟩ := put_map hS ho hobj hb (clock' := clock) hE'
    refine ⟨_, ?_, rfl, g1, g2⟩
    have hset := run_setMap (P := P) hb (.map (ms.modify i fun m => { m with val := z }).toArray clock)
    simp [Instr.entryStore, hget, asInt, asIntOf, hi]
    simpa [St.put] using hset

theorem adelete_sound (hK : KeysOK P K) {S : St} (hS : Sim S) {t t' ty : TypeId} {m k : AV} {x y : Value} {H' : AHeap} (hm : VR S m x) (hk : VR S k y) (h : adelete P K S.H t m k = some H') (rest : List TypeId) :
    ∃ T : St, (Builtin.delete_ (t :: rest).toArray ty #[x, y]).run P S.w = .ok (.tuple #[]) T.w ∧ T.H = H' ∧ Sim T ∧ Ext S T := by
  unfold adelete at h
  split at h <;> first | (cases h; done) | skip
  rename_i kt e hu
  simp only [Option.bind_eq_some_iff] at h
  obtain ⟨sh, hsh, h⟩ := h
  split at h <;> first | (cases h; done) | skip
  rename_i fk
  have hck := fun em => checkKey_of hK hsh hk fk em S.w
  split at h <;> first | (cases h; done) | skip
  rename_i o
  cases hm with
  | map _ ho =>
    split at h <;> first | (cases h; done) | skip
    rename_i sh' es clock hobj
    split at h <;> first | (cases h; done) | skip
    rename_i hsh'
    subst hsh'
    cases h
    obtain ⟨ms, hb, hE⟩ := mapObj hS ho hobj
    obtain ⟨r, hf⟩ := hE.find k
    have hfk := findKey_of hK hsh hk fk S.w hE hf
    have hget := run_getMap (P := P) hb
    obtain ⟨d1, d2⟩ := hE.drop hf
    cases r with
    | none =>
      have hE' : EntR S sh' (dropE k es) ms := by rw [d2 rfl]; exact hE
      obtain ⟨g1, g2⟩ := put_map hS ho hobj hb (clock' := clock) hE'
      refine ⟨_, ?_, rfl, g1, g2⟩
      have hset := run_setMap (P := P) hb (.map ms.toArray clock)
      simp [Builtin.delete_, run_underlying hu, hget, hck, hfk]
      simp [hset, St.put]
    | some r =>
      obtain ⟨i, u⟩ := r
      have hE' := d1 i u rfl
      obtain ⟨g1, g2⟩ := put_map hS ho hobj hb (clock' := clock) hE'
      refine ⟨_, ?_, rfl, g1, g2⟩
      have hset := run_setMap (P := P) hb (.map (ms.eraseIdx i).toArray clock)
      simp [Builtin.delete_, run_underlying hu, hget, hck, hfk]
      simp [hset, St.put]

end
end Go.Proofs.Ytphkkcocimmmfaa
