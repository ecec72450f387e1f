/- The interpreter is right: append. -/
import Derived.Test.YtphkkcocimmmfaaAL6
namespace Go.Proofs.Ytphkkcocimmmfaa
open Go.RowKit

section
variable {P : Program} {K : TypeId → Option (List Sc)}

theorem run_append_nothing (w : World) (t ty e : TypeId) (i : TypeInfo) (ht : P.underlying t = some (.slice e)) (hi : P.info? e = some i) (a b : Option Addr) (n c c2 : Nat) (h : n ≤ c) :
    (Builtin.append_ #[t, t] ty #[.slice a n c, .slice b 0 c2]).run P w = .ok (.slice a n c) w := by
  have hf : (Builtin.firstCells i.size 0 (.slice b 0 c2)).run P w = .ok #[] w := by
    cases b with
    | none => rfl
    | some b => simp [Builtin.firstCells, loadCells, loadCellsFrom]
  cases a with
  | none => simp [Builtin.append_, run_underlying ht, sizeOf, typeInfo, hi, Builtin.lenOf, h, hf]
  | some a => simp [Builtin.append_, run_underlying ht, sizeOf, typeInfo, hi, Builtin.lenOf, h, hf, storeCells]

theorem run_append_inplace (w : World) (t ty e e0 : TypeId) (i : TypeInfo) (ht : P.underlying t = some (.slice e)) (hi : P.info? e = some i)
    (g off sLen sCap : Nat) (cur : Array Value) (hg : w.heap[g]? = some (.cells cur e0 (0, 0)))
    (a : Addr) (m c : Nat) (news : List Value) (hl : news.length = m * i.size) (hnews : ∀ j u, news[j]? = some u → w.cell? (a.add j) = some u) (h1 : ∀ u ∈ news, u.oneCell' = true)
    (hroom : sLen + m ≤ sCap) (hfit : off + sLen * i.size + news.length ≤ cur.size) :
    (Builtin.append_ #[t, t] ty #[.slice (some ⟨g, off, none⟩) sLen sCap, .slice (some a) m c]).run P w =
      .ok (.slice (some ⟨g, off, none⟩) (sLen + m) sCap) (w.setRow g (cur.toList.take (off + sLen * i.size) ++ news ++ cur.toList.drop (off + sLen * i.size + news.length)).toArray) := by
  have hf := run_firstCells_some (P := P) w i.size m a m c news hl hnews
  have hst := run_storeCells_at P g (off + sLen * i.size) e0 news 0 cur w hg (by simpa using hfit) h1
  simp only [Nat.add_zero] at hst
  simp [Builtin.append_, run_underlying ht, sizeOf, typeInfo, hi, Builtin.lenOf, hroom, hf, Addr.add_lit, hst]

theorem ReadsAt.some {w : World} {a : Option Addr} {xs : List Value} (h : ReadsAt w a xs) (h0 : xs ≠ []) : ∃ b off, a = some ⟨b, off, none⟩ ∧ ∀ j x, xs[j]? = some x → w.cell? ((⟨b, off, none⟩ : Addr).add j) = some x := by
  rcases h with h | ⟨b, off, he, hc⟩
  · exact absurd h h0
  · exact ⟨b, off, he, fun j x hj => by rw [add_plain]; exact hc j x hj⟩

theorem grown_cells {e : TypeId} (olds news : List Value) (z : Array Value) (k : Nat) : (olds.toArray ++ news.toArray ++ Builtin.zeroCells z k).toList = (olds ++ news) ++ (Builtin.zeroCells z k).toList := by
  simp

theorem VRs.append_length {S : St} {as bs : List AV} {xs ys : List Value} (h : VRs S as xs) (k : VRs S bs ys) : (xs ++ ys).length = as.length + bs.length := by
  simp [h.length, k.length]

theorem aappend_sound {S : St} (hS : Sim S) {t ty : TypeId} {s x v : AV} {y z : Value} {H' : AHeap} (hs : VR S s y) (hx : VR S x z) (h : aappend P S.H t s x = some (v, H')) :
    ∃ (T : St) (r : Value), (Builtin.append_ #[t, t] ty #[y, z]).run P S.w = .ok r T.w ∧ T.H = H' ∧ Sim T ∧ Ext S T ∧ VR T v r := by
  unfold aappend at h
  split at h <;> first | (cases h; done) | skip
  rename_i e hu
  simp only [Option.bind_eq_some_iff] at h
  obtain ⟨sz, hsz, by_, hby, zz, hzz, new, hnew, m, hm, old, hold, n, hn, h⟩ := h
  obtain ⟨ax, capx, news, rfl, hcx, hvn, hrn⟩ := slice_sound hS hx hm hnew
  obtain ⟨as, caps, olds, rfl, hcs, hvo, hro⟩ := slice_sound hS hs hn hold
  obtain ⟨i, zv, hi, hz, hvz⟩ := tZ_some S hzz
  obtain ⟨i', hi', rfl⟩ := tS_some hsz
  rw [hi] at hi'
  cases hi'
  have hby' : i.bytes = by_ := by simpa [tB, hi] using hby
  subst hby'
  split at h
  · rename_i hm0
    subst hm0
    cases h
    exact ⟨S, _, run_append_nothing S.w t ty e i hu hi as ax n caps capx hcs, rfl, hS, Ext.refl S, hs⟩
  · rename_i hm0
    split at h <;> first | (cases h; done) | skip
    rename_i hc
    obtain ⟨hzl, hnl, hpos, hol, hb47, h63, hone⟩ := hc
    have hnl' : news.length = m * i.size := by rw [← hvn.length]; exact hnl
    have hol' : olds.length = n * i.size := by rw [← hvo.length]; exact hol
    have hne : news ≠ [] := by
      intro e0
      rw [e0] at hnl'
      have : 0 < m * i.size := Nat.mul_pos (by omega) hpos
      simp at hnl'; omega
    obtain ⟨bx, offx, rfl, hcell⟩ := hrn.some hne
    have hzs : zv.cells.size = i.size := by
      have := hvz.length
      simp at this
      omega
    have hcap := grownCap_ge S.w (n + m) caps e
    have hcapm : grownCap S.w (n + m) caps e ≤ 9223372036854775807 := by
      have := grownCap_le_maxLen S.w (n + m) caps e (by simp only [maxLen]; omega)
      simpa only [maxLen] using this
    have hsize : (olds.toArray ++ news.toArray ++ Builtin.zeroCells zv.cells (grownCap S.w (n + m) caps e - (n + m))).size = grownCap S.w (n + m) caps e * i.size := by
      simp only [Array.size_append, List.size_toArray, size_zeroCells, hzs, hol', hnl', ← Nat.add_mul]
      congr 1
      omega
    have hall := hvo.append hvn
    split at h
    · -- nil
      cases h
      cases hs
      clear hn
      have ho : olds = [] := List.eq_nil_of_length_eq_zero (by simpa using hol')
      subst ho
      have hr := run_append_nil (P := P) S.w t ty e i zv hu hi hz ⟨bx, offx, none⟩ m capx news hnl' hcell (by omega) (by omega) (by have hb := hb47; simp only [Nat.zero_add] at hb; omega)
      simp only [Nat.zero_add] at hsize hcap hcapm
      have hsize' : (news.toArray ++ Builtin.zeroCells zv.cells (grownCap S.w m 0 e - m)).size = grownCap S.w m 0 e * i.size := by simpa using hsize
      obtain ⟨h1, h2, h3, h4⟩ := alloc_cells hS hvn (c := news.toArray ++ Builtin.zeroCells zv.cells (grownCap S.w m 0 e - m)) (e := e) (Builtin.zeroCells zv.cells (grownCap S.w m 0 e - m)).toList (by simp) (Grew.drew S.w _)
      refine ⟨_, _, hr, rfl, h1, h2, ?_⟩
      have := VR.row_new (S := S.alloc (.cells new) (S.w.drew.alloc (.cells (news.toArray ++ Builtin.zeroCells zv.cells (grownCap S.w m 0 e - m)) e))) (H := S.H.size) i.size m (grownCap S.w m 0 e) _ false
        (by simp [St.alloc, AHeap.new]) (by rw [h3]; exact h4) (by rw [h3]) (by omega) (by omega) hcapm (by simp)
      rwa [h3] at this
    · rename_i o off sz' n' full
      simp [sliceLen] at hn
      subst hn
      split at h <;> first | (cases h; done) | skip
      rename_i hszz
      subst hszz
      obtain ⟨offY, M, heo, ho, hM, g1, g3, g4⟩ : ∃ offY M, as = some ⟨(S.ι o).1, offY, none⟩ ∧ o < S.H.size ∧ cellsAt S.w (S.ι o).1 M ∧ (0 < caps → offY = (S.ι o).2 + off ∧ (S.ι o).2 + off + caps * i.size ≤ M) ∧ caps ≤ 9223372036854775807 ∧ (full = true → caps = n') := by
        cases hs with
        | row _ _ _ _ _ M _ ho hM g1 g2 g3 g4 => exact ⟨_, M, rfl, ho, hM, fun _ => ⟨rfl, g1⟩, g3, g4⟩
        | row0 _ _ _ offY M _ ho hM => exact ⟨offY, M, rfl, ho, hM, fun h => absurd h (Nat.lt_irrefl 0), by omega, fun _ => rfl⟩
      subst heo
      · -- the rest
        have hgrow : caps < n' + m → (Builtin.append_ #[t, t] ty #[.slice (some ⟨(S.ι o).1, offY, none⟩) n' caps, .slice (some ⟨bx, offx, none⟩) m capx]).run P S.w =
            .ok (.slice (some ⟨S.w.heap.size, 0, none⟩) (n' + m) (grownCap S.w (n' + m) caps e)) (S.w.drew.alloc (.cells (olds.toArray ++ news.toArray ++ Builtin.zeroCells zv.cells (grownCap S.w (n' + m) caps e - (n' + m))) e)) := by
          intro hlt
          by_cases h0 : olds = []
          · subst h0
            exact run_append_grow (P := P) S.w t ty e i zv hu hi hz ⟨(S.ι o).1, offY, none⟩ n' caps [] hol' (fun j v hj => by simp at hj) ⟨bx, offx, none⟩ m capx news hnl' hcell hlt (by omega) (growslice_fits hlt hb47)
          · obtain ⟨bo, offo, heo, hco⟩ := hro.some h0
            cases heo
            exact run_append_grow (P := P) S.w t ty e i zv hu hi hz _ n' caps olds hol' hco ⟨bx, offx, none⟩ m capx news hnl' hcell hlt (by omega) (growslice_fits hlt hb47)
        split at h
        · rename_i hfull
          cases h
          have hlt : caps < n' + m := by have := g4 hfull; omega
          obtain ⟨h1, h2, h3, h4⟩ := alloc_cells hS hall (c := olds.toArray ++ news.toArray ++ Builtin.zeroCells zv.cells (grownCap S.w (n' + m) caps e - (n' + m))) (e := e) (Builtin.zeroCells zv.cells (grownCap S.w (n' + m) caps e - (n' + m))).toList (by simp) (Grew.drew S.w _)
          refine ⟨_, _, hgrow hlt, rfl, h1, h2, ?_⟩
          have := VR.row_new (S := S.alloc (.cells (old ++ new)) (S.w.drew.alloc (.cells (olds.toArray ++ news.toArray ++ Builtin.zeroCells zv.cells (grownCap S.w (n' + m) caps e - (n' + m))) e))) (H := S.H.size) i.size (n' + m) (grownCap S.w (n' + m) caps e) _ false
            (by simp [St.alloc, AHeap.new]) (by rw [h3]; exact h4) (by rw [h3]) (by omega) hcap hcapm (by simp)
          rwa [h3] at this
        · cases h
          have hobj : ∃ cs, S.H.obj o = .cells cs := by
            simp only [sliceCells] at hold
            split at hold
            · rename_i cs hh; exact ⟨cs, hh⟩
            · cases hold
          obtain ⟨cs, hobj⟩ := hobj
          have hl : (S.H.obj o).live := by rw [hobj]; trivial
          have hr := hS.objs o ho
          rw [hobj] at hr
          obtain ⟨c, e0, xs0, k1, k2, k3, k4, k5⟩ := hr.cellsOf
          obtain ⟨c1, e1, fr1, q1, q2⟩ := hM
          rw [k1] at q1
          cases q1
          by_cases hroom : n' + m ≤ caps
          · -- in place
            obtain ⟨rfl, g1⟩ := g1 (by omega)
            have hfit : (S.ι o).2 + off + n' * i.size + news.length ≤ c.size := by
              have : (n' + m) * i.size ≤ caps * i.size := Nat.mul_le_mul_right _ hroom
              rw [Nat.add_mul] at this
              omega
            have hrun := run_append_inplace (P := P) S.w t ty e e0 i hu hi (S.ι o).1 ((S.ι o).2 + off) n' caps c k1 ⟨bx, offx, none⟩ m capx news hnl' hcell (hvn.ones hone) hroom hfit
            have hW := Wrote.setRow (w := S.w) (cs := (c.toList.take ((S.ι o).2 + off + n' * i.size) ++ news ++ c.toList.drop ((S.ι o).2 + off + n' * i.size + news.length)).toArray) k1
            have hcs : (c.toList.take ((S.ι o).2 + off + n' * i.size) ++ news ++ c.toList.drop ((S.ι o).2 + off + n' * i.size + news.length)).toArray.size = c.size := by simp; omega
            obtain ⟨h1, h2, h3, h4⟩ := kill_cells hS ho hl hall (p := ((S.ι o).1, (S.ι o).2 + off)) (w' := S.w.setRow (S.ι o).1 (c.toList.take ((S.ι o).2 + off + n' * i.size) ++ news ++ c.toList.drop ((S.ι o).2 + off + n' * i.size + news.length)).toArray)
              hW.os hW.tape hW.output (Nat.le_of_eq hW.size.symm) (.inl rfl) hW.here (fun k _ hk => hW.other k hk)
              (by rintro M2 ⟨c2, e2, fr2, r1, r2⟩; simp only at r1; rw [k1] at r1; cases r1; omega) (by simp only; rw [hcs, List.length_append]; omega)
              (by
                intro j u hj
                simp only [List.getElem?_toArray]
                by_cases hj1 : j < olds.length
                · rw [List.getElem?_append_left hj1] at hj
                  rw [List.append_assoc, List.getElem?_append_left (by simp; omega), List.getElem?_take, if_pos (by omega), Array.getElem?_toList]
                  rcases hro with h0 | ⟨bo, offo, heo, hco⟩
                  · rw [h0] at hj1; simp at hj1
                  · cases heo
                    have := hco j u hj
                    simpa [World.cell?, k1] using this
                · rw [List.getElem?_append_right (by omega)] at hj
                  have hj2 : j - olds.length < news.length := (List.getElem?_eq_some_iff.1 hj).1
                  rw [List.append_assoc, List.getElem?_append_right (by simp; omega)]
                  simp only [List.length_take, Array.length_toList]
                  rw [show min ((S.ι o).2 + off + n' * i.size) c.size = (S.ι o).2 + off + n' * i.size from by omega]
                  rw [show (S.ι o).2 + off + j - ((S.ι o).2 + off + n' * i.size) = j - olds.length from by omega]
                  rw [List.getElem?_append_left hj2]
                  exact hj)
            refine ⟨_, _, hrun, rfl, h1, h2, ?_⟩
            have := VR.row (S := S.kill o (.cells (old ++ new)) ((S.ι o).1, (S.ι o).2 + off) (S.w.setRow (S.ι o).1 (c.toList.take ((S.ι o).2 + off + n' * i.size) ++ news ++ c.toList.drop ((S.ι o).2 + off + n' * i.size + news.length)).toArray)) S.H.size 0 i.size (n' + m) caps c.size false
              (by simp [St.kill, AHeap.new, AHeap.set]) (by rw [h3, ← hcs]; exact h4) (by rw [h3]; simp only; omega) (by omega) g3 (by simp)
            rw [h3] at this
            exact this
          · have hlt : caps < n' + m := by omega
            have hG := Grew.drew S.w (.cells (olds.toArray ++ news.toArray ++ Builtin.zeroCells zv.cells (grownCap S.w (n' + m) caps e - (n' + m))) e)
            obtain ⟨h1, h2, h3, h4⟩ := kill_cells hS ho hl hall (p := (S.w.heap.size, 0)) (e := e) (c' := olds.toArray ++ news.toArray ++ Builtin.zeroCells zv.cells (grownCap S.w (n' + m) caps e - (n' + m)))
              (w' := S.w.drew.alloc (.cells (olds.toArray ++ news.toArray ++ Builtin.zeroCells zv.cells (grownCap S.w (n' + m) caps e - (n' + m))) e))
              hG.os hG.tape hG.output (by rw [hG.heap]; simp) (.inr (Nat.le_refl _)) hG.new (fun k hk _ => hG.old hk)
              (fun M2 hM2 => by have := cellsAt_lt hM2; simp at this) (by simp only; rw [hsize, List.length_append, hol', hnl', ← Nat.add_mul]; have := Nat.mul_le_mul_right i.size hcap; omega)
              (by
                intro j u hj
                simp only [Nat.zero_add]
                rw [← Array.getElem?_toList, grown_cells (e := e), List.getElem?_append_left (List.getElem?_eq_some_iff.1 hj).1]
                exact hj)
            refine ⟨_, _, hgrow hlt, rfl, h1, h2, ?_⟩
            have := VR.row_new (S := S.kill o (.cells (old ++ new)) (S.w.heap.size, 0) (S.w.drew.alloc (.cells (olds.toArray ++ news.toArray ++ Builtin.zeroCells zv.cells (grownCap S.w (n' + m) caps e - (n' + m))) e))) (H := S.H.size) i.size (n' + m) (grownCap S.w (n' + m) caps e) _ false
              (by simp [St.kill, AHeap.new, AHeap.set]) (by rw [h3]; exact h4) (by rw [h3]) (by omega) hcap hcapm (by simp)
            rwa [h3] at this
    · cases h
end
end Go.Proofs.Ytphkkcocimmmfaa
