/- What a new block, a written block, a killed object do to the relation between the abstract heap and the world. -/
import Derived.Test.YtphkkcocimmmfaaAL3
import Derived.Laws.CopyRow
import Derived.Laws.Tables
namespace Go.Proofs.Ytphkkcocimmmfaa
open Go.RowKit

theorem World.cell?_heap {w w' : World} {b off : Nat} (h : w'.heap[b]? = w.heap[b]?) : w'.cell? ⟨b, off, none⟩ = w.cell? ⟨b, off, none⟩ := by
  unfold World.cell?
  rw [h]

theorem Sim.lt {S : St} (h : Sim S) {b : Nat} (ho : S.owned b) : b < S.w.heap.size := by
  obtain ⟨o, h1, _, rfl⟩ := ho
  exact h.below o h1

/-- An object whose block is as it was is what it was. -/
theorem ObjR.same {S T : St} (hE : Ext S T) {o : Nat} (ho : o < S.H.size) {x : AObj} (hb : T.w.heap[(S.ι o).1]? = S.w.heap[(S.ι o).1]?) (h : ObjR S o x) : ObjR T o x := by
  cases h with
  | dead => exact .dead
  | cells cs c e xs h1 h2 h3 h4 =>
    rw [← hE.ι o ho] at h3 h4
    exact .cells cs c e xs (by rw [hE.ι o ho, hb]; exact h1) (h2.ext hE) h3 h4
  | map sh es ms clock h1 h2 => exact .map sh es ms clock (by rw [hE.ι o ho, hb]; exact h1) (h2.ext hE)
  | iter s pos h1 => exact .iter s pos (by rw [hE.ι o ho, hb]; exact h1)

def St.alloc (S : St) (x : AObj) (w' : World) : St := ⟨fun o => if o = S.H.size then (S.w.heap.size, 0) else S.ι o, S.H.new x, w'⟩

/-- A world with one block more. -/
structure Grew (w w' : World) (o : Obj) : Prop where
  os : w'.os = w.os
  tape : w'.tape = w.tape
  output : w'.output = w.output
  heap : w'.heap = w.heap.push o

theorem Grew.old {w w' : World} {o : Obj} (h : Grew w w' o) {b : Nat} (hb : b < w.heap.size) : w'.heap[b]? = w.heap[b]? := by
  rw [h.heap, Array.getElem?_push, if_neg (by omega)]
theorem Grew.new {w w' : World} {o : Obj} (h : Grew w w' o) : w'.heap[w.heap.size]? = some o := by
  rw [h.heap]; simp
theorem Grew.alloc (w : World) (o : Obj) : Grew w (w.alloc o) o := ⟨rfl, rfl, rfl, rfl⟩
theorem Grew.drew (w : World) (o : Obj) : Grew w (w.drew.alloc o) o := ⟨rfl, rfl, rfl, rfl⟩

theorem cellsAt_lt {w : World} {b m : Nat} (h : cellsAt w b m) : b < w.heap.size := by
  obtain ⟨c, e, fr, h, _⟩ := h
  exact (Array.getElem?_eq_some_iff.1 h).1

theorem alloc_ext {S : St} (hS : Sim S) {x : AObj} {w' : World} {o : Obj} (hg : Grew S.w w' o) : Ext S (S.alloc x w') := by
  refine ⟨hg.os, hg.tape, hg.output, by simp [St.alloc, hg.heap], by simp [St.alloc, AHeap.new], fun o ho => ?_, fun b m hb => ?_, fun b hb ho => ⟨hg.old hb, ?_⟩, fun _ => Nat.le_refl _, fun o ho _ => ?_⟩
  · simp only [St.alloc]; rw [if_neg (by omega)]
  · obtain ⟨c, e, fr, h1, h2⟩ := hb
    exact ⟨c, e, fr, by rw [show (S.alloc x w').w = w' from rfl, hg.old (Array.getElem?_eq_some_iff.1 h1).1]; exact h1, h2⟩
  · rintro ⟨o', h1, h2, h3⟩
    simp only [St.alloc, AHeap.new] at h1 h2 h3
    by_cases he : o' = S.H.size
    · rw [if_pos he] at h3; simp only at h3; omega
    · rw [if_neg he] at h2 h3
      exact ho ⟨o', by omega, h2, h3⟩
  · simp only [St.alloc, AHeap.new]; rw [if_neg (by omega)]

theorem alloc_sim {S : St} (hS : Sim S) {x : AObj} {w' : World} {o : Obj} (hg : Grew S.w w' o) (hx : ObjR (S.alloc x w') S.H.size x) : Sim (S.alloc x w') := by
  have hE := alloc_ext hS (x := x) hg
  have hsz : w'.heap.size = S.w.heap.size + 1 := by simp [hg.heap]
  refine ⟨fun o ho => ?_, fun o o' ho ho' hl hl' he => ?_, fun o ho => ?_⟩
  · simp only [St.alloc, AHeap.new] at ho
    by_cases h : o = S.H.size
    · subst h
      simpa [St.alloc, AHeap.new] using hx
    · have h1 : o < S.H.size := by omega
      have := (hS.objs o h1).same hE h1 (hg.old (hS.below o h1))
      simpa [St.alloc, AHeap.new, h] using this
  · simp only [St.alloc, AHeap.new] at ho ho' hl hl' he
    by_cases h : o = S.H.size <;> by_cases h' : o' = S.H.size
    · omega
    · rw [if_pos h, if_neg h'] at he
      have := hS.below o' (by omega)
      simp only at he; omega
    · rw [if_neg h, if_pos h'] at he
      have := hS.below o (by omega)
      simp only at he; omega
    · rw [if_neg h, if_neg h'] at he
      rw [if_neg h] at hl
      rw [if_neg h'] at hl'
      exact hS.inj o o' (by omega) (by omega) hl hl' he
  · simp only [St.alloc, AHeap.new] at ho ⊢
    by_cases h : o = S.H.size
    · rw [if_pos h, hsz]; simp
    · rw [if_neg h, hsz]
      have := hS.below o (by omega)
      omega

/-- A new row of cells; the machine may lay spare cells behind it. -/
theorem alloc_cells {S : St} (hS : Sim S) {cs : List AV} {xs : List Value} (hv : VRs S cs xs) {c : Array Value} {e : TypeId} (extra : List Value) (hc : c.toList = xs ++ extra) {w' : World} (hg : Grew S.w w' (.cells c e (0, 0))) :
    Sim (S.alloc (.cells cs) w') ∧ Ext S (S.alloc (.cells cs) w') ∧ (S.alloc (.cells cs) w').ι S.H.size = (S.w.heap.size, 0) ∧ cellsAt w' S.w.heap.size c.size := by
  have hE := alloc_ext hS (x := .cells cs) hg
  have hι : (S.alloc (.cells cs) w').ι S.H.size = (S.w.heap.size, 0) := by simp [St.alloc]
  have hsz : xs.length + extra.length = c.size := by rw [← Array.length_toList, hc]; simp
  refine ⟨alloc_sim hS hg (.cells cs c e xs ?_ (hv.ext hE) ?_ ?_), hE, hι, ⟨c, e, _, hg.new, rfl⟩⟩
  · rw [hι]; exact hg.new
  · rw [hι]; simp only; omega
  · intro j x hj
    rw [hι]
    simp only [Nat.zero_add]
    rw [← Array.getElem?_toList, hc, List.getElem?_append_left (List.getElem?_eq_some_iff.1 hj).1]
    exact hj

theorem alloc_obj {S : St} (hS : Sim S) {x : AObj} {o : Obj} {w' : World} (hg : Grew S.w w' o) (hx : ∀ T : St, T.w = w' → (T.ι S.H.size).1 = S.w.heap.size → ObjR T S.H.size x) :
    Sim (S.alloc x w') ∧ Ext S (S.alloc x w') ∧ (S.alloc x w').ι S.H.size = (S.w.heap.size, 0) :=
  ⟨alloc_sim hS hg (hx _ rfl (by simp [St.alloc])), alloc_ext hS hg, by simp [St.alloc]⟩

/-- A world in which one block was put in another's place. -/
structure Wrote (w w' : World) (b : Nat) (o : Obj) : Prop where
  os : w'.os = w.os
  tape : w'.tape = w.tape
  output : w'.output = w.output
  size : w'.heap.size = w.heap.size
  here : w'.heap[b]? = some o
  other : ∀ k, k ≠ b → w'.heap[k]? = w.heap[k]?

theorem Wrote.setRow {w : World} {b : Nat} {old cs : Array Value} {t : TypeId} {fr : Nat × Nat} (h : w.heap[b]? = some (.cells old t fr)) : Wrote w (w.setRow b cs) b (.cells cs t fr) :=
  ⟨rfl, rfl, rfl, by simp [World.setRow], setRow_heap w b old cs t fr h, fun k hk => setRow_other w b k cs hk⟩

theorem Wrote.setObj {w : World} {b : Nat} (h : b < w.heap.size) (o : Obj) : Wrote w { w with heap := w.heap.setIfInBounds b o } b o :=
  ⟨rfl, rfl, rfl, by simp, by simp [h], fun k hk => by simp [Array.getElem?_setIfInBounds_ne (Ne.symm hk)]⟩

def St.put (S : St) (o : Nat) (x : AObj) (w' : World) : St := ⟨S.ι, S.H.set o x, w'⟩

theorem put_ext {S : St} {o : Nat} (ho : o < S.H.size) (hl : (S.H.obj o).live) {x : AObj} {w' : World} {ob : Obj} (hw : Wrote S.w w' (S.ι o).1 ob)
    (hc : ∀ m, cellsAt S.w (S.ι o).1 m → cellsAt w' (S.ι o).1 m) : Ext S (S.put o x w') := by
  refine ⟨hw.os, hw.tape, hw.output, Nat.le_of_eq hw.size.symm, Nat.le_refl _, fun _ _ => rfl, fun b m hb => ?_, fun b hb hn => ⟨?_, ?_⟩, fun k => by simp only [St.put, AHeap.set]; split <;> omega, fun k _ h => by simp only [St.put, AHeap.set] at h ⊢; split at h <;> first | omega | (rename_i hn; rw [if_neg hn])⟩
  · by_cases h : b = (S.ι o).1
    · subst h; exact hc m hb
    · obtain ⟨c, e, fr, h1, h2⟩ := hb
      exact ⟨c, e, fr, by rw [show (S.put o x w').w = w' from rfl, hw.other b h]; exact h1, h2⟩
  · exact hw.other b fun e => hn ⟨o, ho, hl, e.symm⟩
  · rintro ⟨o', h1, h2, h3⟩
    simp only [St.put, AHeap.set] at h1 h2 h3
    by_cases he : o' = o
    · subst he; exact hn ⟨o', ho, hl, h3⟩
    · rw [if_neg he] at h2; exact hn ⟨o', h1, h2, h3⟩

theorem put_sim {S : St} (hS : Sim S) {o : Nat} (ho : o < S.H.size) (hl : (S.H.obj o).live) {x : AObj} {w' : World} {ob : Obj} (hw : Wrote S.w w' (S.ι o).1 ob)
    (hc : ∀ m, cellsAt S.w (S.ι o).1 m → cellsAt w' (S.ι o).1 m) (hx : ObjR (S.put o x w') o x) : Sim (S.put o x w') := by
  have hE := put_ext (x := x) ho hl hw hc
  refine ⟨fun p hp => ?_, fun p p' hp hp' h h' he => ?_, fun p hp => ?_⟩
  · by_cases h : p = o
    · subst h; simpa [St.put, AHeap.set] using hx
    · have hp' : p < S.H.size := hp
      by_cases hlive : (S.H.obj p).live
      · have := (hS.objs p hp').same hE hp' (hw.other _ fun e => h (hS.inj p o hp' ho hlive hl e))
        simpa [St.put, AHeap.set, h] using this
      · have hd : S.H.obj p = .dead := by
          cases hx : S.H.obj p <;> simp [hx, AObj.live] at hlive ⊢
        simp only [St.put, AHeap.set, if_neg h, hd]
        exact .dead
  · have g : ∀ q, ((S.put o x w').H.obj q).live → (S.H.obj q).live := by
      intro q hq
      by_cases h : q = o
      · subst h; exact hl
      · simpa [St.put, AHeap.set, h] using hq
    exact hS.inj p p' hp hp' (g p h) (g p' h') he
  · show (S.ι p).1 < w'.heap.size
    rw [hw.size]
    exact hS.below p hp

/-- Cells are written within an object. -/
theorem put_cells {S : St} (hS : Sim S) {o : Nat} (ho : o < S.H.size) {cs : List AV} (hobj : S.H.obj o = .cells cs) {c : Array Value} {e : TypeId} (hb : S.w.heap[(S.ι o).1]? = some (.cells c e (0, 0)))
    {cs' : List AV} {xs' : List Value} (hv : VRs S cs' xs') {c' : Array Value} (hsz : c'.size = c.size) (hfit : (S.ι o).2 + xs'.length ≤ c.size) (hget : ∀ j x, xs'[j]? = some x → c'[(S.ι o).2 + j]? = some x) {w' : World} (hw : Wrote S.w w' (S.ι o).1 (.cells c' e (0, 0))) :
    Sim (S.put o (.cells cs') w') ∧ Ext S (S.put o (.cells cs') w') := by
  have hl : (S.H.obj o).live := by rw [hobj]; trivial
  have hc : ∀ m, cellsAt S.w (S.ι o).1 m → cellsAt w' (S.ι o).1 m := by
    rintro m ⟨c1, e1, fr1, h1, h2⟩
    rw [hb] at h1
    cases h1
    exact ⟨c', e, _, hw.here, by omega⟩
  have hE := put_ext (x := .cells cs') ho hl hw hc
  refine ⟨put_sim hS ho hl hw hc (.cells cs' c' e xs' ?_ (hv.ext hE) ?_ ?_), hE⟩
  · exact hw.here
  · show (S.ι o).2 + xs'.length ≤ c'.size; omega
  · exact hget

/-- A map is put in the place of a map. -/
theorem put_map {S : St} (hS : Sim S) {o : Nat} (ho : o < S.H.size) {sh : KSh} {es : List AEnt} {clock : Nat} (hobj : S.H.obj o = .map sh es clock) {ms0 : Array MapEntry} {c0 : Nat} (hb : S.w.heap[(S.ι o).1]? = some (.map ms0 c0))
    {es' : List AEnt} {clock' : Nat} {ms' : List MapEntry} (hv : EntR S sh es' ms') :
    Sim (S.put o (.map sh es' clock') { S.w with heap := S.w.heap.setIfInBounds (S.ι o).1 (.map ms'.toArray clock') }) ∧ Ext S (S.put o (.map sh es' clock') { S.w with heap := S.w.heap.setIfInBounds (S.ι o).1 (.map ms'.toArray clock') }) := by
  have hl : (S.H.obj o).live := by rw [hobj]; trivial
  have hw := Wrote.setObj (hS.below o ho) (.map ms'.toArray clock')
  have hc : ∀ m, cellsAt S.w (S.ι o).1 m → cellsAt { S.w with heap := S.w.heap.setIfInBounds (S.ι o).1 (.map ms'.toArray clock') } (S.ι o).1 m := by
    rintro m ⟨c1, e1, fr1, h1, h2⟩
    rw [hb] at h1
    cases h1
  have hE := put_ext (x := .map sh es' clock') ho hl hw hc
  exact ⟨put_sim hS ho hl hw hc (.map sh es' ms' clock' hw.here (hv.ext hE)), hE⟩

def St.kill (S : St) (o : Nat) (x : AObj) (p : Nat × Nat) (w' : World) : St := ⟨fun k => if k = S.H.size then p else S.ι k, (S.H.set o .dead).new x, w'⟩

/-- An object dies, and a new one has its block, or one of its own. -/
theorem kill_cells {S : St} (hS : Sim S) {o : Nat} (ho : o < S.H.size) (hl : (S.H.obj o).live) {cs' : List AV} {xs' : List Value} (hv : VRs S cs' xs') {p : Nat × Nat} {c' : Array Value} {e : TypeId} {w' : World}
    (hos : w'.os = S.w.os) (ht : w'.tape = S.w.tape) (hout : w'.output = S.w.output) (hsize : S.w.heap.size ≤ w'.heap.size)
    (hp : p.1 = (S.ι o).1 ∨ S.w.heap.size ≤ p.1) (hhere : w'.heap[p.1]? = some (.cells c' e (0, 0))) (hother : ∀ k, k < S.w.heap.size → k ≠ p.1 → w'.heap[k]? = S.w.heap[k]?)
    (hc : ∀ m, cellsAt S.w p.1 m → m = c'.size) (hfit : p.2 + xs'.length ≤ c'.size) (hget : ∀ j x, xs'[j]? = some x → c'[p.2 + j]? = some x) :
    Sim (S.kill o (.cells cs') p w') ∧ Ext S (S.kill o (.cells cs') p w') ∧ (S.kill o (.cells cs') p w').ι S.H.size = p ∧ cellsAt w' p.1 c'.size := by
  have hpl : p.1 < w'.heap.size := (Array.getElem?_eq_some_iff.1 hhere).1
  have hobj : ∀ k, (S.kill o (.cells cs') p w').H.obj k = if k = S.H.size then .cells cs' else if k = o then .dead else S.H.obj k := fun _ => rfl
  have hι : ∀ k, (S.kill o (.cells cs') p w').ι k = if k = S.H.size then p else S.ι k := fun _ => rfl
  have hsz : (S.kill o (.cells cs') p w').H.size = S.H.size + 1 := rfl
  have hE : Ext S (S.kill o (.cells cs') p w') := by
    refine ⟨hos, ht, hout, hsize, by simp [St.kill, AHeap.new, AHeap.set], fun k hk => ?_, fun b m hb => ?_, fun b hb hn => ⟨?_, ?_⟩, fun k => by simp only [St.kill, AHeap.new, AHeap.set]; split <;> omega, fun k hk h => by rw [hobj, if_neg (Nat.ne_of_lt hk)]; simp only [St.kill, AHeap.new, AHeap.set] at h; split at h <;> first | omega | (rename_i hn; rw [if_neg hn])⟩
    · simp only [St.kill]; rw [if_neg (by omega)]
    · have hlt := cellsAt_lt hb
      by_cases h : b = p.1
      · subst h; exact ⟨c', e, _, hhere, (hc m hb).symm⟩
      · obtain ⟨c1, e1, fr1, h1, h2⟩ := hb
        exact ⟨c1, e1, fr1, by rw [show (S.kill o (.cells cs') p w').w = w' from rfl, hother b hlt h]; exact h1, h2⟩
    · exact hother b hb fun h => by
        rcases hp with hp | hp
        · exact hn ⟨o, ho, hl, by rw [← hp, h]⟩
        · omega
    · rintro ⟨o', h1, h2, h3⟩
      rw [hsz] at h1; rw [hobj] at h2; rw [hι] at h3
      by_cases he : o' = S.H.size
      · rw [if_pos he] at h3
        rcases hp with hp | hp
        · exact hn ⟨o, ho, hl, by rw [← hp, h3]⟩
        · omega
      · rw [if_neg he] at h2 h3
        by_cases he2 : o' = o
        · rw [if_pos he2] at h2; exact h2
        · rw [if_neg he2] at h2; exact hn ⟨o', by omega, h2, h3⟩
  refine ⟨⟨fun k hk => ?_, fun k k' hk hk' h h' he => ?_, fun k hk => ?_⟩, hE, by simp [St.kill], ⟨c', e, _, hhere, rfl⟩⟩
  · by_cases h : k = S.H.size
    · subst h
      have : (S.kill o (.cells cs') p w').H.obj S.H.size = .cells cs' := by simp [St.kill, AHeap.new, AHeap.set]
      rw [this]
      refine .cells cs' c' e xs' ?_ (hv.ext hE) ?_ ?_
      · simpa [St.kill] using hhere
      · simpa [St.kill] using hfit
      · simpa [St.kill] using hget
    · have hk' : k < S.H.size := by simp [St.kill, AHeap.new, AHeap.set] at hk; omega
      by_cases h2 : k = o
      · subst h2
        rw [hobj, if_neg h, if_pos rfl]
        exact .dead
      · by_cases hlive : (S.H.obj k).live
        · have := (hS.objs k hk').same hE hk' (hother _ (hS.below k hk') fun e => by
            rcases hp with hp | hp
            · exact h2 (hS.inj k o hk' ho hlive hl (e.trans hp))
            · have := hS.below k hk'; omega)
          rw [hobj, if_neg h, if_neg h2]
          exact this
        · have hd : S.H.obj k = .dead := by
            cases hx : S.H.obj k <;> simp [hx, AObj.live] at hlive ⊢
          rw [hobj, if_neg h, if_neg h2, hd]
          exact .dead
  · have g : ∀ q, q ≠ S.H.size → q < (S.kill o (.cells cs') p w').H.size → ((S.kill o (.cells cs') p w').H.obj q).live → q < S.H.size ∧ q ≠ o ∧ (S.H.obj q).live := by
      intro q hq hqs hql
      rw [hobj, if_neg hq] at hql
      rw [hsz] at hqs
      by_cases h : q = o
      · rw [if_pos h] at hql; exact hql.elim
      · rw [if_neg h] at hql; exact ⟨by omega, h, hql⟩
    have gι : ∀ q, q ≠ S.H.size → (S.kill o (.cells cs') p w').ι q = S.ι q := by
      intro q hq; simp only [St.kill]; rw [if_neg hq]
    have gn : (S.kill o (.cells cs') p w').ι S.H.size = p := by simp [St.kill]
    have apart : ∀ q, q < S.H.size → q ≠ o → (S.H.obj q).live → (S.ι q).1 ≠ p.1 := by
      intro q hq hqo hql e
      rcases hp with hp | hp
      · exact hqo (hS.inj q o hq ho hql hl (e.trans hp))
      · have := hS.below q hq; omega
    by_cases h1 : k = S.H.size <;> by_cases h2 : k' = S.H.size
    · omega
    · obtain ⟨a1, a2, a3⟩ := g k' h2 hk' h'
      rw [h1, gn, gι k' h2] at he
      exact absurd he.symm (apart k' a1 a2 a3)
    · obtain ⟨a1, a2, a3⟩ := g k h1 hk h
      rw [h2, gn, gι k h1] at he
      exact absurd he (apart k a1 a2 a3)
    · obtain ⟨a1, a2, a3⟩ := g k h1 hk h
      obtain ⟨b1, b2, b3⟩ := g k' h2 hk' h'
      rw [gι k h1, gι k' h2] at he
      exact hS.inj k k' a1 b1 a3 b3 he
  · show ((S.kill o (.cells cs') p w').ι k).1 < w'.heap.size
    by_cases h : k = S.H.size
    · subst h; simp only [St.kill, if_pos]; exact hpl
    · simp only [St.kill]; rw [if_neg h]
      have hk' : k < S.H.size := by simp [St.kill, AHeap.new, AHeap.set] at hk; omega
      exact Nat.lt_of_lt_of_le (hS.below k hk') hsize

end Go.Proofs.Ytphkkcocimmmfaa
