/- The walk of package cset's Merge. -/
import Derived.Test.YtmfmniecoaihhaaCsC
namespace Go.Proofs.Ytmfmniecoaihhaa
open Go.RowKit

theorem mrg_left {a b : List Int} {i k : Nat} (hi : i < a.length) (h : k = b.length ∨ (k < b.length ∧ b.getD k 0 < a.getD i 0)) : mrg (a.drop i) (b.drop k) = a.getD i 0 :: mrg (a.drop (i + 1)) (b.drop k) := by
  rw [List.drop_eq_getElem_cons hi, show a.getD i 0 = a[i] by simp [List.getD, List.getElem?_eq_getElem hi]] at *
  rcases h with rfl | ⟨hk, h⟩
  · rw [List.drop_length, mrg_nil, mrg_nil]
  · rw [List.drop_eq_getElem_cons hk]
    rw [show b.getD k 0 = b[k] by simp [List.getD, List.getElem?_eq_getElem hk]] at h
    conv => lhs; rw [mrg, if_pos h]
theorem mrg_right {a b : List Int} {i k : Nat} (hk : k < b.length) (h : i = a.length ∨ (i < a.length ∧ a.getD i 0 < b.getD k 0)) : mrg (a.drop i) (b.drop k) = b.getD k 0 :: mrg (a.drop i) (b.drop (k + 1)) := by
  rw [List.drop_eq_getElem_cons hk, show b.getD k 0 = b[k] by simp [List.getD, List.getElem?_eq_getElem hk]] at *
  rcases h with rfl | ⟨hi, h⟩
  · rw [List.drop_length, mrg, mrg]
  · rw [List.drop_eq_getElem_cons hi]
    rw [show a.getD i 0 = a[i] by simp [List.getD, List.getElem?_eq_getElem hi]] at h
    conv => lhs; rw [mrg, if_neg (by omega), if_pos h]
theorem mrg_both {a b : List Int} {i k : Nat} (hi : i < a.length) (hk : k < b.length) (h : a.getD i 0 = b.getD k 0) : mrg (a.drop i) (b.drop k) = a.getD i 0 :: mrg (a.drop (i + 1)) (b.drop (k + 1)) := by
  rw [List.drop_eq_getElem_cons hi, List.drop_eq_getElem_cons hk]
  rw [show a.getD i 0 = a[i] by simp [List.getD, List.getElem?_eq_getElem hi], show b.getD k 0 = b[k] by simp [List.getD, List.getElem?_eq_getElem hk]] at *
  conv => lhs; rw [mrg, if_neg (by omega), if_neg (by omega)]

/-- What stands in a round. -/
structure MSt (w wr : World) (g g2 : Nat) (lo hi : Int) (s d : St) (A : Option Addr) (c : Nat) (A2 : Option Addr) (c2 : Nat) (o : Value) (l : List Int) (n : Int) : Prop where
  blk : wr.heap[g]? = some (.cells #[.int .i64 lo, .int .i64 hi, .int .i64 s.off, .slice A s.cs.length c, .bool s.full, .int .i64 n] 50)
  blk2 : wr.heap[g2]? = some (.cells #[.int .i64 lo, .int .i64 hi, .int .i64 d.off, .slice A2 d.cs.length c2, .bool d.full, .int .i64 d.steps] 50)
  sl : Sl wr A c (qc s.off s.cs)
  sl2 : Sl wr A2 c2 (qc d.off d.cs)
  far : ∀ ad, A = some ad → ad.block < w.heap.size ∧ ad.block ≠ g
  far2 : ∀ ad, A2 = some ad → ad.block < w.heap.size ∧ ad.block ≠ g
  out : Qu wr w.heap.size 2 o (qc s.off l)
  fr : Fr w.heap.size g w wr
  lt : g < w.heap.size
  lt2 : g2 < w.heap.size
  ne : g ≠ g2
namespace MSt
variable {w wr : World} {g g2 : Nat} {lo hi : Int} {s d : St} {A : Option Addr} {c : Nat} {A2 : Option Addr} {c2 : Nat} {o : Value} {l : List Int} {n : Int}
theorem drewN (h : MSt w wr g g2 lo hi s d A c A2 c2 o l n) (m : Nat) : MSt w (wr.drewN m) g g2 lo hi s d A c A2 c2 o l n :=
  ⟨h.blk, h.blk2, h.sl.keep fun _ _ h _ => h, h.sl2.keep fun _ _ h _ => h, h.far, h.far2, h.out.keep fun _ _ _ => rfl, h.fr.trans (fr_drewN _ _ _ _), h.lt, h.lt2, h.ne⟩
theorem steps (h : MSt w wr g g2 lo hi s d A c A2 c2 o l n) : MSt w (wr.setCell ⟨g, 5, none⟩ (.int .i64 (n + 1))) g g2 lo hi s d A c A2 c2 o l (n + 1) :=
  ⟨blk_set h.blk 5 (.int .i64 (n + 1)), blk_far h.blk2 (fun e => h.ne e.symm) _, h.sl.set (fun ad e _ => (h.far ad e).2) _, h.sl2.set (fun ad e _ => (h.far2 ad e).2) _, h.far, h.far2,
    h.out.far (a := ⟨g, 5, none⟩) (fun e => by have := (h.out.lt g e).1; have := h.lt; omega) _, h.fr.setCell (p := ⟨g, 5, none⟩) (.inr rfl) _, h.lt, h.lt2, h.ne⟩
theorem app (h : MSt w wr g g2 lo hi s d A c A2 c2 o l n) {ob : Obj} {v' : Value} {w' : World} {x : Int} (hq : Qu w' w.heap.size 2 v' (qc s.off l ++ [.int .i64 (s.off - x)])) (hg : (wr.alloc ob).grownBy w' o.ownBlock) : MSt w w' g g2 lo hi s d A c A2 c2 v' (l ++ [x]) n := by
  have hlo : ∀ k, o.ownBlock = some k → w.heap.size ≤ k := fun k e => (h.out.lt k e).1
  have hne : ∀ k, k < w.heap.size → o.ownBlock ≠ some k := fun k hk e => by have := hlo k e; omega
  refine ⟨blk_grown (blk_alloc h.blk ob) hg (hne g h.lt), blk_grown (blk_alloc h.blk2 ob) hg (hne g2 h.lt2), (h.sl.alloc ob).grown hg (fun ad e => fun e' => hne _ (h.far ad e).1 e'.symm),
    (h.sl2.alloc ob).grown hg (fun ad e => fun e' => hne _ (h.far2 ad e).1 e'.symm), h.far, h.far2, by rw [qc_append]; exact hq, (h.fr.alloc h.fr.size ob).grown hg (by have := h.fr.size; simp; omega) (fun k e => .inl (hlo k e)), h.lt, h.lt2, h.ne⟩
theorem appD (h : MSt w wr g g2 lo hi s d A c A2 c2 o l n) {ob : Obj} {v' : Value} {w' : World} {x : Int} (hq : Qu w' w.heap.size 2 v' (qc s.off l ++ [.int .i64 (s.off - x)])) (hg : (wr.alloc ob).drew.grownBy w' o.ownBlock) : MSt w w' g g2 lo hi s d A c A2 c2 v' (l ++ [x]) n :=
  h.app hq ⟨hg.os, hg.tape, hg.output, hg.size, hg.block⟩
theorem cell1 (h : MSt w wr g g2 lo hi s d A c A2 c2 o l n) {i : Nat} (hi : i < s.cs.length) : ∃ ad, A = some ad ∧ wr.cell? (ad.add i) = some (.int .i64 (s.off - s.cs.getD i 0)) := by
  obtain ⟨ad, e, hc⟩ := h.sl.at_ (k := i) (by rw [qc_length]; exact hi)
  exact ⟨ad, e, by rw [hc, qc_get]⟩
theorem cell2 (h : MSt w wr g g2 lo hi s d A c A2 c2 o l n) {i : Nat} (hi : i < d.cs.length) : ∃ ad, A2 = some ad ∧ wr.cell? (ad.add i) = some (.int .i64 (d.off - d.cs.getD i 0)) := by
  obtain ⟨ad, e, hc⟩ := h.sl2.at_ (k := i) (by rw [qc_length]; exact hi)
  exact ⟨ad, e, by rw [hc, qc_get]⟩
theorem cell1s {ad : Addr} (h : MSt w wr g g2 lo hi s d (some ad) c A2 c2 o l n) {i : Nat} (hi : i < s.cs.length) : wr.cell? (ad.add i) = some (.int .i64 (s.off - s.cs.getD i 0)) := by
  obtain ⟨ad', e, hc⟩ := h.cell1 hi
  cases e
  exact hc
theorem cell2s {ad : Addr} (h : MSt w wr g g2 lo hi s d A c (some ad) c2 o l n) {i : Nat} (hi : i < d.cs.length) : wr.cell? (ad.add i) = some (.int .i64 (d.off - d.cs.getD i 0)) := by
  obtain ⟨ad', e, hc⟩ := h.cell2 hi
  cases e
  exact hc
end MSt
theorem getD_mem {l : List Int} {i : Nat} (h : i < l.length) : l.getD i 0 ∈ l := by
  rw [show l.getD i 0 = l[i] by simp [List.getD, List.getElem?_eq_getElem h]]
  exact List.getElem_mem h

set_option maxRecDepth 100000 in
set_option maxHeartbeats 4000000 in
theorem merge_any (g base g2 base2 : Nat) (lo hi b : Int) (s d : St) (w : World) (h : SetIs w g base lo hi s) (h2 : SetIs w g2 base2 lo hi d) (hne : g ≠ g2) (hs : s.Sane b) (hd : d.Sane b) (hk : b ≤ 400) (_hb0 : base ≤ w.heap.size) :
    Calls Try.prog 19 #[.pointer (some ⟨g, 0, none⟩), .pointer (some ⟨g2, 0, none⟩)] w fun e w' => e = .returned (.tuple #[]) ∧ SetIs w' g w.heap.size lo hi (s.merge d) ∧ Fr w.heap.size g w w' := by
  obtain ⟨i0, hi0, hz0, hz1, hz2⟩ := info_parts infoI
  obtain ⟨v, hblk, hq⟩ := h
  obtain ⟨v2, hblk2, hq2⟩ := h2
  have n1 := hq.ne_blk hblk (by decide)
  have n2 := hq2.ne_blk hblk (by decide)
  obtain ⟨A, c, rfl, hsl, hA⟩ := hq.sl
  obtain ⟨A2, c2, rfl, hsl2, hA2⟩ := hq2.sl
  rw [qc_length] at hblk hblk2
  have st0 : MSt w w g g2 lo hi s d A c A2 c2 (.slice none 0 0) [] s.steps :=
    ⟨hblk, hblk2, hsl, hsl2, fun ad e => ⟨(hA ad e).2.2, fun e' => n1 (by rw [(hA ad e).2.1, e'])⟩, fun ad e => ⟨(hA2 ad e).2.2, fun e' => n2 (by rw [(hA2 ad e).2.1, e'])⟩, Qu.nil _ _ _, Fr.refl _ _ _, blk_lt hblk, blk_lt hblk2, hne⟩
  have l1 := hs.length
  have l2 := hd.length
  have o1 := hs.off0
  have o2 := hs.off1
  have o3 := hd.off0
  have o4 := hd.off1
  have o5 := hs.st0
  have o6 := hs.st1
  have m1 := hs.mem
  have m2 := hd.mem
  have hmn := mrgN_eq s.cs d.cs
  have hml := mrgN_le s.cs d.cs
  have Hmn := Lib.hid hmn
  clear hmn hblk hblk2 hq hq2 hsl hsl2 hA hA2 n1 n2
  obtain ⟨soff, cs, sfull, ssteps⟩ := s
  obtain ⟨doff, ds, dfull, dsteps⟩ := d
  dsimp only at l1 l2 o1 o2 o3 o4 o5 o6 m1 m2 hml Hmn
  go_enter Try.func19, Try.ntmps19
  go_wp2
  go_loopw [4, 5, 6] (fun o i k wr => ∃ (i' k' : Nat) (l : List Int), i' ≤ cs.length ∧ k' ≤ ds.length ∧ i = .int .i64 i' ∧ k = .int .i64 k' ∧ Hid (l ++ mrg (cs.drop i') (ds.drop k') = mrg cs ds) ∧ MSt w wr g g2 lo hi ⟨soff, cs, sfull, ssteps⟩ ⟨doff, ds, dfull, dsteps⟩ A c A2 c2 o l (ssteps + l.length)) (fun _ i k _ => (cs.length - (intOf i).toNat) + (ds.length - (intOf k).toNat))
  case atStart => exact ⟨0, 0, [], by omega, by omega, rfl, rfl, rfl, by simpa using st0⟩
  case round =>
    clear st0
    obtain ⟨i, k, l, hi', hk', rfl, rfl, hl, st⟩ := hrel
    have hlen := congrArg List.length hl.out
    rw [List.length_append] at hlen
    have q1 := st.lt
    have q2 := st.lt2
    have q3 := st.ne
    have q4 := st.fr.size
    obtain ⟨c0, c1, c2', c3, c4, c5⟩ := six_cells st.blk
    obtain ⟨d0, d1, d2, d3, d4, d5⟩ := six_cells st.blk2
    obtain ⟨f0, f1, f2, f3, f4, f5⟩ := six_frozen st.blk
    dsimp only at c0 c1 c2' c3 c4 c5 d0 d1 d2 d3 d4 d5
    have hby : ((qc soff l).length + 1) * 8 ≤ 140737488355328 := by rw [qc_length]; have := mrgN_eq cs ds; omega
    have hll : (l.length : Int) ≤ 1000 := by have := mrgN_eq cs ds; omega
    have hby : ((qc soff l).length + 1) * 8 ≤ 140737488355328 := by rw [qc_length]; have := mrgN_eq cs ds; omega
    have hll : (l.length : Int) ≤ 1000 := by have := mrgN_eq cs ds; omega
    have hby : ((qc soff l).length + 1) * 8 ≤ 140737488355328 := by rw [qc_length]; have := mrgN_eq cs ds; omega
    have hll : (l.length : Int) ≤ 1000 := by have := mrgN_eq cs ds; omega
    have hby : ((qc soff l).length + 1) * 8 ≤ 140737488355328 := by rw [qc_length]; have := mrgN_eq cs ds; omega
    have hll : (l.length : Int) ≤ 1000 := by have := mrgN_eq cs ds; omega
    have hby : ((qc soff l).length + 1) * 8 ≤ 140737488355328 := by rw [qc_length]; have := mrgN_eq cs ds; omega
    have hll : (l.length : Int) ≤ 1000 := by have := mrgN_eq cs ds; omega
    have hby : ((qc soff l).length + 1) * 8 ≤ 140737488355328 := by rw [qc_length]; have := mrgN_eq cs ds; omega
    have hll : (l.length : Int) ≤ 1000 := by have := mrgN_eq cs ds; omega
    have hby : ((qc soff l).length + 1) * 8 ≤ 140737488355328 := by rw [qc_length]; have := mrgN_eq cs ds; omega
    have hll : (l.length : Int) ≤ 1000 := by have := mrgN_eq cs ds; omega
    have hby : ((qc soff l).length + 1) * 8 ≤ 140737488355328 := by rw [qc_length]; have := mrgN_eq cs ds; omega
    have hll : (l.length : Int) ≤ 1000 := by have := mrgN_eq cs ds; omega
    have hby : ((qc soff l).length + 1) * 8 ≤ 140737488355328 := by rw [qc_length]; have := mrgN_eq cs ds; omega
    have hll : (l.length : Int) ≤ 1000 := by have := mrgN_eq cs ds; omega
    have hby : ((qc soff l).length + 1) * 8 ≤ 140737488355328 := by rw [qc_length]; have := mrgN_eq cs ds; omega
    have hll : (l.length : Int) ≤ 1000 := by have := mrgN_eq cs ds; omega
    have hby : ((qc soff l).length + 1) * 8 ≤ 140737488355328 := by rw [qc_length]; have := mrgN_eq cs ds; omega
    have hll : (l.length : Int) ≤ 1000 := by have := mrgN_eq cs ds; omega
    have hby : ((qc soff l).length + 1) * 8 ≤ 140737488355328 := by rw [qc_length]; have := mrgN_eq cs ds; omega
    have hll : (l.length : Int) ≤ 1000 := by have := mrgN_eq cs ds; omega
    have hby : ((qc soff l).length + 1) * 8 ≤ 140737488355328 := by rw [qc_length]; have := mrgN_eq cs ds; omega
    by_cases hiL : i < cs.length
    · obtain ⟨ad1, rfl, _⟩ := st.cell1 hiL
      have ei1 : ((i : Int) == (cs.length : Int)) = false := by simp; omega
      have ei2 : (i == cs.length) = false := by simp; omega
      have hx := m1 _ (getD_mem hiL)
      generalize hxe : cs.getD i 0 = x at hx
      by_cases hkL : k < ds.length
      · obtain ⟨ad2, rfl, _⟩ := st.cell2 hkL
        have ek1 : ((k : Int) == (ds.length : Int)) = false := by simp; omega
        have ek2 : (k == ds.length) = false := by simp; omega
        have hy := m2 _ (getD_mem hkL)
        generalize hye : ds.getD k 0 = y at hy
        by_cases hlt : y < x
        · have hcase : k = ds.length ∨ (k < ds.length ∧ ds.getD k 0 < cs.getD i 0) := .inr ⟨hkL, by rw [hxe, hye]; exact hlt⟩
          have hd1 : decide (doff - (doff - y) < soff - (soff - x)) = true := by simp; omega
          have hcx := st.cell1s hiL
          dsimp only at hcx
          rw [hxe] at hcx
          have hcy := st.cell2s hkL
          dsimp only at hcy
          rw [hye] at hcy
          go_wp2
          obtain ⟨w2, hw⟩ : ∃ w2, w2 = wr.setCell ⟨g, 5, none⟩ (.int .i64 (ssteps + l.length + 1)) := ⟨_, rfl⟩
          rw [← hw]
          have st' : MSt w w2 g g2 lo hi ⟨soff, cs, sfull, ssteps⟩ ⟨doff, ds, dfull, dsteps⟩ (some ad1) c (some ad2) c2 u4 l (ssteps + l.length + 1) := by rw [hw]; exact st.steps
          clear hw st c0 c1 c2' c3 c4 c5 d0 d1 d2 d3 d4 d5 f0 f1 f2 f3 f4 f5 hcx hcy
          have st := st'
          clear st'
          obtain ⟨c0, c1, c2', c3, c4, c5⟩ := six_cells st.blk
          obtain ⟨d0, d1, d2, d3, d4, d5⟩ := six_cells st.blk2
          dsimp only at c0 c1 c2' c3 c4 c5 d0 d1 d2 d3 d4 d5
          have hcx := st.cell1s hiL
          dsimp only at hcx
          rw [hxe] at hcx
          have hcy := st.cell2s hkL
          dsimp only at hcy
          rw [hye] at hcy
          go_quiet (fail)
          obtain ⟨w3, hw⟩ : ∃ w3, w3 = w2.drewN nq := ⟨_, rfl⟩
          rw [← hw]
          have st' : MSt w w3 g g2 lo hi ⟨soff, cs, sfull, ssteps⟩ ⟨doff, ds, dfull, dsteps⟩ (some ad1) c (some ad2) c2 u4 l (ssteps + l.length + 1) := by rw [hw]; exact st.drewN nq
          clear hw st c0 c1 c2' c3 c4 c5 d0 d1 d2 d3 d4 d5 hcx hcy
          have st := st'
          clear st'
          obtain ⟨c0, c1, c2', c3, c4, c5⟩ := six_cells st.blk
          obtain ⟨d0, d1, d2, d3, d4, d5⟩ := six_cells st.blk2
          dsimp only at c0 c1 c2' c3 c4 c5 d0 d1 d2 d3 d4 d5
          have hcx := st.cell1s hiL
          dsimp only at hcx
          rw [hxe] at hcx
          have hcy := st.cell2s hkL
          dsimp only at hcy
          rw [hye] at hcy
          have hcell : ∀ (u : Value) (t : TypeId), (w3.alloc (.cells #[u] t)).cell? ((⟨w3.heap.size, 0, none⟩ : Addr).add 0) = some u := fun u t => cell_one_new w3 u t 0 u rfl
          have hbb : ∀ o, w.heap.size ≤ (w3.alloc o).heap.size := fun o => by have := st.fr.size; simp; omega
          have hsz := st.fr.size
          go_wp2_with (at_builtin; refine wpList_append_qu _ rfl (.tmp 88) (.tmp 96) 32 rfl w.heap.size 2 i0 (.int .i64 0) 8 Try.underlying32 hi0 hz0 hz1 hz2 rfl u4 (qc soff l) rfl (st.out.alloc _) ⟨w3.heap.size, 0, none⟩ 1 (.int .i64 (soff - x)) rfl (hcell _ _) rfl hby (by decide) (hbb _) ?_; intro v' w' hq' hgr hbv)
          all_goals go_wp2
          all_goals
            refine ⟨⟨i + 1, k, l ++ [x], by omega, by omega, by go_num, by go_num, ?_, ?_⟩, by simp [intOf]; omega⟩
            · have h1 := mrg_left (a := cs) (b := ds) hiL (hcase)
              rw [hxe] at h1
              have h2 := hl.out
              rw [h1] at h2
              exact Lib.hid (by rw [List.append_assoc]; exact h2)
            · have h1 := st.app (x := x) hq' hgr
              rw [show (ssteps + ((l ++ [x]).length : Int)) = ssteps + l.length + 1 by simp; omega]
              exact h1

        · by_cases hgt : x < y
          · have hcase : i = cs.length ∨ (i < cs.length ∧ cs.getD i 0 < ds.getD k 0) := .inr ⟨hiL, by rw [hxe, hye]; exact hgt⟩
            have hd1 : decide (doff - (doff - y) < soff - (soff - x)) = false := by simp; omega
            have hd2 : decide (soff - (soff - x) < doff - (doff - y)) = true := by simp; omega
            have hcx := st.cell1s hiL
            dsimp only at hcx
            rw [hxe] at hcx
            have hcy := st.cell2s hkL
            dsimp only at hcy
            rw [hye] at hcy
            go_wp2
            obtain ⟨w2, hw⟩ : ∃ w2, w2 = wr.setCell ⟨g, 5, none⟩ (.int .i64 (ssteps + l.length + 1)) := ⟨_, rfl⟩
            rw [← hw]
            have st' : MSt w w2 g g2 lo hi ⟨soff, cs, sfull, ssteps⟩ ⟨doff, ds, dfull, dsteps⟩ (some ad1) c (some ad2) c2 u4 l (ssteps + l.length + 1) := by rw [hw]; exact st.steps
            clear hw st c0 c1 c2' c3 c4 c5 d0 d1 d2 d3 d4 d5 f0 f1 f2 f3 f4 f5 hcx hcy
            have st := st'
            clear st'
            obtain ⟨c0, c1, c2', c3, c4, c5⟩ := six_cells st.blk
            obtain ⟨d0, d1, d2, d3, d4, d5⟩ := six_cells st.blk2
            dsimp only at c0 c1 c2' c3 c4 c5 d0 d1 d2 d3 d4 d5
            have hcx := st.cell1s hiL
            dsimp only at hcx
            rw [hxe] at hcx
            have hcy := st.cell2s hkL
            dsimp only at hcy
            rw [hye] at hcy
            go_quiet (fail)
            obtain ⟨w3, hw⟩ : ∃ w3, w3 = w2.drewN nq := ⟨_, rfl⟩
            rw [← hw]
            have st' : MSt w w3 g g2 lo hi ⟨soff, cs, sfull, ssteps⟩ ⟨doff, ds, dfull, dsteps⟩ (some ad1) c (some ad2) c2 u4 l (ssteps + l.length + 1) := by rw [hw]; exact st.drewN nq
            clear hw st c0 c1 c2' c3 c4 c5 d0 d1 d2 d3 d4 d5 hcx hcy
            have st := st'
            clear st'
            obtain ⟨c0, c1, c2', c3, c4, c5⟩ := six_cells st.blk
            obtain ⟨d0, d1, d2, d3, d4, d5⟩ := six_cells st.blk2
            dsimp only at c0 c1 c2' c3 c4 c5 d0 d1 d2 d3 d4 d5
            have hcx := st.cell1s hiL
            dsimp only at hcx
            rw [hxe] at hcx
            have hcy := st.cell2s hkL
            dsimp only at hcy
            rw [hye] at hcy
            go_wp2
            go_quiet (fail)
            obtain ⟨w4, hw⟩ : ∃ w4, w4 = w3.drewN nq := ⟨_, rfl⟩
            rw [← hw]
            have st' : MSt w w4 g g2 lo hi ⟨soff, cs, sfull, ssteps⟩ ⟨doff, ds, dfull, dsteps⟩ (some ad1) c (some ad2) c2 u4 l (ssteps + l.length + 1) := by rw [hw]; exact st.drewN nq
            clear hw st c0 c1 c2' c3 c4 c5 d0 d1 d2 d3 d4 d5 hcx hcy
            have st := st'
            clear st'
            obtain ⟨c0, c1, c2', c3, c4, c5⟩ := six_cells st.blk
            obtain ⟨d0, d1, d2, d3, d4, d5⟩ := six_cells st.blk2
            dsimp only at c0 c1 c2' c3 c4 c5 d0 d1 d2 d3 d4 d5
            have hcx := st.cell1s hiL
            dsimp only at hcx
            rw [hxe] at hcx
            have hcy := st.cell2s hkL
            dsimp only at hcy
            rw [hye] at hcy
            have hcell : ∀ (u : Value) (t : TypeId), (w4.alloc (.cells #[u] t)).cell? ((⟨w4.heap.size, 0, none⟩ : Addr).add 0) = some u := fun u t => cell_one_new w4 u t 0 u rfl
            have hbb : ∀ o, w.heap.size ≤ (w4.alloc o).heap.size := fun o => by have := st.fr.size; simp; omega
            have hsz := st.fr.size
            have hqa : ∀ o', Qu (w4.alloc o').drew w.heap.size 2 u4 (qc soff l) := fun o' => (st.out.alloc o').drew
            have hcellD : ∀ (u : Value) (t : TypeId), (w4.alloc (.cells #[u] t)).drew.cell? ((⟨w4.heap.size, 0, none⟩ : Addr).add 0) = some u := fun u t => by simpa using hcell u t
            have hbbD : ∀ o, w.heap.size ≤ (w4.alloc o).drew.heap.size := hbb
            have hS : w4.cell? ⟨g, 2, none⟩ = some (.int .i64 soff) ∧ w4.cell? ⟨g2, 2, none⟩ = some (.int .i64 doff) ∧ w4.cell? ⟨g2, 3, none⟩ = some (.slice (some ad2) ds.length c2) ∧ w4.cell? (ad2.add k) = some (.int .i64 (doff - y)) := ⟨c2', d2, d3, hcy⟩
            have hb2 := (st.far2 ad2 rfl).1
            have hlo : ∀ k, u4.ownBlock = some k → w.heap.size ≤ k := fun k e => (st.out.lt k e).1
            have hS2 : ∀ o w', (w4.alloc o).drew.grownBy w' u4.ownBlock → w'.cell? ⟨g, 2, none⟩ = some (.int .i64 soff) ∧ w'.cell? ⟨g2, 2, none⟩ = some (.int .i64 doff) ∧ w'.cell? ⟨g2, 3, none⟩ = some (.slice (some ad2) ds.length c2) ∧ w'.cell? (ad2.add k) = some (.int .i64 (doff - y)) := fun o w' hg => by
              have key : ∀ a u, a.block < w.heap.size → w4.cell? a = some u → w'.cell? a = some u := fun a u ha hu => by
                have h1 : (w4.alloc o).drew.cell? a = some u := (((Below.refl w4.heap.size w4).alloc (Nat.le_refl _) o).cell (p := a) (by omega)).trans hu
                exact hg.cell h1 (fun e => by have := hlo a.block e.symm; omega)
              exact ⟨key _ _ q1 hS.1, key _ _ q2 hS.2.1, key _ _ q2 hS.2.2.1, key _ _ (by rw [addr_block]; exact hb2) hS.2.2.2⟩
            have ne1 := World.new_ne w4 _ c2'
            have ne2 := World.new_ne w4 _ d2
            have ne3 := World.new_ne w4 _ d3
            have ne4 := World.new_ne w4 _ hcy
            have kb0 : (0 : Int) ≤ (k : Int) := Int.natCast_nonneg _
            have kb1 : (k : Int) < (ds.length : Int) := by omega
            have hwr : IntKind.i64.wrap (soff - IntKind.i64.wrap (doff - (doff - y))) = soff - y := by rw [IntKind.wrap_i64, IntKind.wrap_i64]; omega
            have hwr2 : IntKind.i64.wrap (soff - (doff - (doff - y))) = soff - y := by rw [IntKind.wrap_i64]; omega
            go_wp2
            go_region_held3 (fun w' => w'.cell? ⟨g, 2, none⟩ = some (.int .i64 soff) ∧ w'.cell? ⟨g2, 2, none⟩ = some (.int .i64 doff) ∧ w'.cell? ⟨g2, 3, none⟩ = some (.slice (some ad2) ds.length c2) ∧ w'.cell? (ad2.add k) = some (.int .i64 (doff - y)))
              (first
                | go_keep
                | exact hS2 _ _ hgr)
              ((refine step_append_qu _ (by rfl) (.tmp 135) (.tmp 153) 32 (by rfl) w.heap.size 2 i0 (.int .i64 0) 8 Try.underlying32 hi0 hz0 hz1 hz2 rfl u4 (qc soff l) (by rfl) (hqa _) ⟨w4.heap.size, 0, none⟩ 1 _ (by rfl) (hcellD _ _) rfl hby (by decide) (hbbD _) ?_; intro v' w' hq' hgr hbv))
            all_goals go_wp2
            all_goals
              refine ⟨⟨i, k + 1, l ++ [y], by omega, by omega, by go_num, by go_num, ?_, ?_⟩, by simp [intOf]; omega⟩
              · have h1 := mrg_right (a := cs) (b := ds) hkL (hcase)
                rw [hye] at h1
                have h2 := hl.out
                rw [h1] at h2
                exact Lib.hid (by rw [List.append_assoc]; exact h2)
              · have h1 := st.appD (x := y) hq' hgr
                rw [show (ssteps + ((l ++ [y]).length : Int)) = ssteps + l.length + 1 by simp; omega]
                exact h1

          · have hd1 : decide (doff - (doff - y) < soff - (soff - x)) = false := by simp; omega
            have hd2 : decide (soff - (soff - x) < doff - (doff - y)) = false := by simp; omega
            have hcx := st.cell1s hiL
            dsimp only at hcx
            rw [hxe] at hcx
            have hcy := st.cell2s hkL
            dsimp only at hcy
            rw [hye] at hcy
            go_wp2
            obtain ⟨w2, hw⟩ : ∃ w2, w2 = wr.setCell ⟨g, 5, none⟩ (.int .i64 (ssteps + l.length + 1)) := ⟨_, rfl⟩
            rw [← hw]
            have st' : MSt w w2 g g2 lo hi ⟨soff, cs, sfull, ssteps⟩ ⟨doff, ds, dfull, dsteps⟩ (some ad1) c (some ad2) c2 u4 l (ssteps + l.length + 1) := by rw [hw]; exact st.steps
            clear hw st c0 c1 c2' c3 c4 c5 d0 d1 d2 d3 d4 d5 f0 f1 f2 f3 f4 f5 hcx hcy
            have st := st'
            clear st'
            obtain ⟨c0, c1, c2', c3, c4, c5⟩ := six_cells st.blk
            obtain ⟨d0, d1, d2, d3, d4, d5⟩ := six_cells st.blk2
            dsimp only at c0 c1 c2' c3 c4 c5 d0 d1 d2 d3 d4 d5
            have hcx := st.cell1s hiL
            dsimp only at hcx
            rw [hxe] at hcx
            have hcy := st.cell2s hkL
            dsimp only at hcy
            rw [hye] at hcy
            go_quiet (fail)
            obtain ⟨w3, hw⟩ : ∃ w3, w3 = w2.drewN nq := ⟨_, rfl⟩
            rw [← hw]
            have st' : MSt w w3 g g2 lo hi ⟨soff, cs, sfull, ssteps⟩ ⟨doff, ds, dfull, dsteps⟩ (some ad1) c (some ad2) c2 u4 l (ssteps + l.length + 1) := by rw [hw]; exact st.drewN nq
            clear hw st c0 c1 c2' c3 c4 c5 d0 d1 d2 d3 d4 d5 hcx hcy
            have st := st'
            clear st'
            obtain ⟨c0, c1, c2', c3, c4, c5⟩ := six_cells st.blk
            obtain ⟨d0, d1, d2, d3, d4, d5⟩ := six_cells st.blk2
            dsimp only at c0 c1 c2' c3 c4 c5 d0 d1 d2 d3 d4 d5
            have hcx := st.cell1s hiL
            dsimp only at hcx
            rw [hxe] at hcx
            have hcy := st.cell2s hkL
            dsimp only at hcy
            rw [hye] at hcy
            go_wp2
            go_quiet (fail)
            obtain ⟨w4, hw⟩ : ∃ w4, w4 = w3.drewN nq := ⟨_, rfl⟩
            rw [← hw]
            have st' : MSt w w4 g g2 lo hi ⟨soff, cs, sfull, ssteps⟩ ⟨doff, ds, dfull, dsteps⟩ (some ad1) c (some ad2) c2 u4 l (ssteps + l.length + 1) := by rw [hw]; exact st.drewN nq
            clear hw st c0 c1 c2' c3 c4 c5 d0 d1 d2 d3 d4 d5 hcx hcy
            have st := st'
            clear st'
            obtain ⟨c0, c1, c2', c3, c4, c5⟩ := six_cells st.blk
            obtain ⟨d0, d1, d2, d3, d4, d5⟩ := six_cells st.blk2
            dsimp only at c0 c1 c2' c3 c4 c5 d0 d1 d2 d3 d4 d5
            have hcx := st.cell1s hiL
            dsimp only at hcx
            rw [hxe] at hcx
            have hcy := st.cell2s hkL
            dsimp only at hcy
            rw [hye] at hcy
            have hcell : ∀ (u : Value) (t : TypeId), (w4.alloc (.cells #[u] t)).cell? ((⟨w4.heap.size, 0, none⟩ : Addr).add 0) = some u := fun u t => cell_one_new w4 u t 0 u rfl
            have hbb : ∀ o, w.heap.size ≤ (w4.alloc o).heap.size := fun o => by have := st.fr.size; simp; omega
            have hsz := st.fr.size
            go_wp2_with (at_builtin; refine wpList_append_qu _ rfl (.tmp 30) (.tmp 38) 32 rfl w.heap.size 2 i0 (.int .i64 0) 8 Try.underlying32 hi0 hz0 hz1 hz2 rfl u4 (qc soff l) rfl (st.out.alloc _) ⟨w4.heap.size, 0, none⟩ 1 (.int .i64 (soff - x)) rfl (hcell _ _) rfl hby (by decide) (hbb _) ?_; intro v' w' hq' hgr hbv)
            all_goals go_wp2
            all_goals
              refine ⟨⟨i + 1, k + 1, l ++ [x], by omega, by omega, by go_num, by go_num, ?_, ?_⟩, by simp [intOf]; omega⟩
              · have h1 := mrg_both hiL hkL (by rw [hxe, hye]; omega)
                rw [hxe] at h1
                have h2 := hl.out
                rw [h1] at h2
                exact Lib.hid (by rw [List.append_assoc]; exact h2)
              · have h1 := st.app (x := x) hq' hgr
                rw [show (ssteps + ((l ++ [x]).length : Int)) = ssteps + l.length + 1 by simp; omega]
                exact h1

      · obtain rfl : k = ds.length := by omega
        have hcase : ds.length = ds.length ∨ (ds.length < ds.length ∧ ds.getD ds.length 0 < cs.getD i 0) := .inl rfl
        have hcx := st.cell1s hiL
        dsimp only at hcx
        rw [hxe] at hcx
        go_wp2
        obtain ⟨w2, hw⟩ : ∃ w2, w2 = wr.setCell ⟨g, 5, none⟩ (.int .i64 (ssteps + l.length + 1)) := ⟨_, rfl⟩
        rw [← hw]
        have st' : MSt w w2 g g2 lo hi ⟨soff, cs, sfull, ssteps⟩ ⟨doff, ds, dfull, dsteps⟩ (some ad1) c A2 c2 u4 l (ssteps + l.length + 1) := by rw [hw]; exact st.steps
        clear hw st c0 c1 c2' c3 c4 c5 d0 d1 d2 d3 d4 d5 f0 f1 f2 f3 f4 f5 hcx
        have st := st'
        clear st'
        obtain ⟨c0, c1, c2', c3, c4, c5⟩ := six_cells st.blk
        obtain ⟨d0, d1, d2, d3, d4, d5⟩ := six_cells st.blk2
        dsimp only at c0 c1 c2' c3 c4 c5 d0 d1 d2 d3 d4 d5
        have hcx := st.cell1s hiL
        dsimp only at hcx
        rw [hxe] at hcx
        go_quiet (fail)
        obtain ⟨w3, hw⟩ : ∃ w3, w3 = w2.drewN nq := ⟨_, rfl⟩
        rw [← hw]
        have st' : MSt w w3 g g2 lo hi ⟨soff, cs, sfull, ssteps⟩ ⟨doff, ds, dfull, dsteps⟩ (some ad1) c A2 c2 u4 l (ssteps + l.length + 1) := by rw [hw]; exact st.drewN nq
        clear hw st c0 c1 c2' c3 c4 c5 d0 d1 d2 d3 d4 d5 hcx
        have st := st'
        clear st'
        obtain ⟨c0, c1, c2', c3, c4, c5⟩ := six_cells st.blk
        obtain ⟨d0, d1, d2, d3, d4, d5⟩ := six_cells st.blk2
        dsimp only at c0 c1 c2' c3 c4 c5 d0 d1 d2 d3 d4 d5
        have hcx := st.cell1s hiL
        dsimp only at hcx
        rw [hxe] at hcx
        have hcell : ∀ (u : Value) (t : TypeId), (w3.alloc (.cells #[u] t)).cell? ((⟨w3.heap.size, 0, none⟩ : Addr).add 0) = some u := fun u t => cell_one_new w3 u t 0 u rfl
        have hbb : ∀ o, w.heap.size ≤ (w3.alloc o).heap.size := fun o => by have := st.fr.size; simp; omega
        have hsz := st.fr.size
        go_wp2_with (at_builtin; refine wpList_append_qu _ rfl (.tmp 88) (.tmp 96) 32 rfl w.heap.size 2 i0 (.int .i64 0) 8 Try.underlying32 hi0 hz0 hz1 hz2 rfl u4 (qc soff l) rfl (st.out.alloc _) ⟨w3.heap.size, 0, none⟩ 1 (.int .i64 (soff - x)) rfl (hcell _ _) rfl hby (by decide) (hbb _) ?_; intro v' w' hq' hgr hbv)
        all_goals go_wp2
        all_goals
          refine ⟨⟨i + 1, ds.length, l ++ [x], by omega, by omega, by go_num, by go_num, ?_, ?_⟩, by simp [intOf]; omega⟩
          · have h1 := mrg_left (a := cs) (b := ds) hiL (.inl rfl)
            rw [hxe] at h1
            have h2 := hl.out
            rw [h1] at h2
            exact Lib.hid (by rw [List.append_assoc]; exact h2)
          · have h1 := st.app (x := x) hq' hgr
            rw [show (ssteps + ((l ++ [x]).length : Int)) = ssteps + l.length + 1 by simp; omega]
            exact h1

    · obtain rfl : i = cs.length := by omega
      by_cases hkL : k < ds.length
      · obtain ⟨ad2, rfl, _⟩ := st.cell2 hkL
        have ek1 : ((k : Int) == (ds.length : Int)) = false := by simp; omega
        have ek2 : (k == ds.length) = false := by simp; omega
        have hy := m2 _ (getD_mem hkL)
        generalize hye : ds.getD k 0 = y at hy
        have hcase : cs.length = cs.length ∨ (cs.length < cs.length ∧ cs.getD cs.length 0 < ds.getD k 0) := .inl rfl
        have hcy := st.cell2s hkL
        dsimp only at hcy
        rw [hye] at hcy
        go_wp2
        obtain ⟨w2, hw⟩ : ∃ w2, w2 = wr.setCell ⟨g, 5, none⟩ (.int .i64 (ssteps + l.length + 1)) := ⟨_, rfl⟩
        rw [← hw]
        have st' : MSt w w2 g g2 lo hi ⟨soff, cs, sfull, ssteps⟩ ⟨doff, ds, dfull, dsteps⟩ A c (some ad2) c2 u4 l (ssteps + l.length + 1) := by rw [hw]; exact st.steps
        clear hw st c0 c1 c2' c3 c4 c5 d0 d1 d2 d3 d4 d5 f0 f1 f2 f3 f4 f5 hcy
        have st := st'
        clear st'
        obtain ⟨c0, c1, c2', c3, c4, c5⟩ := six_cells st.blk
        obtain ⟨d0, d1, d2, d3, d4, d5⟩ := six_cells st.blk2
        dsimp only at c0 c1 c2' c3 c4 c5 d0 d1 d2 d3 d4 d5
        have hcy := st.cell2s hkL
        dsimp only at hcy
        rw [hye] at hcy
        go_quiet (fail)
        obtain ⟨w3, hw⟩ : ∃ w3, w3 = w2.drewN nq := ⟨_, rfl⟩
        rw [← hw]
        have st' : MSt w w3 g g2 lo hi ⟨soff, cs, sfull, ssteps⟩ ⟨doff, ds, dfull, dsteps⟩ A c (some ad2) c2 u4 l (ssteps + l.length + 1) := by rw [hw]; exact st.drewN nq
        clear hw st c0 c1 c2' c3 c4 c5 d0 d1 d2 d3 d4 d5 hcy
        have st := st'
        clear st'
        obtain ⟨c0, c1, c2', c3, c4, c5⟩ := six_cells st.blk
        obtain ⟨d0, d1, d2, d3, d4, d5⟩ := six_cells st.blk2
        dsimp only at c0 c1 c2' c3 c4 c5 d0 d1 d2 d3 d4 d5
        have hcy := st.cell2s hkL
        dsimp only at hcy
        rw [hye] at hcy
        go_wp2
        go_quiet (fail)
        obtain ⟨w4, hw⟩ : ∃ w4, w4 = w3.drewN nq := ⟨_, rfl⟩
        rw [← hw]
        have st' : MSt w w4 g g2 lo hi ⟨soff, cs, sfull, ssteps⟩ ⟨doff, ds, dfull, dsteps⟩ A c (some ad2) c2 u4 l (ssteps + l.length + 1) := by rw [hw]; exact st.drewN nq
        clear hw st c0 c1 c2' c3 c4 c5 d0 d1 d2 d3 d4 d5 hcy
        have st := st'
        clear st'
        obtain ⟨c0, c1, c2', c3, c4, c5⟩ := six_cells st.blk
        obtain ⟨d0, d1, d2, d3, d4, d5⟩ := six_cells st.blk2
        dsimp only at c0 c1 c2' c3 c4 c5 d0 d1 d2 d3 d4 d5
        have hcy := st.cell2s hkL
        dsimp only at hcy
        rw [hye] at hcy
        have hcell : ∀ (u : Value) (t : TypeId), (w4.alloc (.cells #[u] t)).cell? ((⟨w4.heap.size, 0, none⟩ : Addr).add 0) = some u := fun u t => cell_one_new w4 u t 0 u rfl
        have hbb : ∀ o, w.heap.size ≤ (w4.alloc o).heap.size := fun o => by have := st.fr.size; simp; omega
        have hsz := st.fr.size
        have hqa : ∀ o', Qu (w4.alloc o').drew w.heap.size 2 u4 (qc soff l) := fun o' => (st.out.alloc o').drew
        have hcellD : ∀ (u : Value) (t : TypeId), (w4.alloc (.cells #[u] t)).drew.cell? ((⟨w4.heap.size, 0, none⟩ : Addr).add 0) = some u := fun u t => by simpa using hcell u t
        have hbbD : ∀ o, w.heap.size ≤ (w4.alloc o).drew.heap.size := hbb
        have hS : w4.cell? ⟨g, 2, none⟩ = some (.int .i64 soff) ∧ w4.cell? ⟨g2, 2, none⟩ = some (.int .i64 doff) ∧ w4.cell? ⟨g2, 3, none⟩ = some (.slice (some ad2) ds.length c2) ∧ w4.cell? (ad2.add k) = some (.int .i64 (doff - y)) := ⟨c2', d2, d3, hcy⟩
        have hb2 := (st.far2 ad2 rfl).1
        have hlo : ∀ k, u4.ownBlock = some k → w.heap.size ≤ k := fun k e => (st.out.lt k e).1
        have hS2 : ∀ o w', (w4.alloc o).drew.grownBy w' u4.ownBlock → w'.cell? ⟨g, 2, none⟩ = some (.int .i64 soff) ∧ w'.cell? ⟨g2, 2, none⟩ = some (.int .i64 doff) ∧ w'.cell? ⟨g2, 3, none⟩ = some (.slice (some ad2) ds.length c2) ∧ w'.cell? (ad2.add k) = some (.int .i64 (doff - y)) := fun o w' hg => by
          have key : ∀ a u, a.block < w.heap.size → w4.cell? a = some u → w'.cell? a = some u := fun a u ha hu => by
            have h1 : (w4.alloc o).drew.cell? a = some u := (((Below.refl w4.heap.size w4).alloc (Nat.le_refl _) o).cell (p := a) (by omega)).trans hu
            exact hg.cell h1 (fun e => by have := hlo a.block e.symm; omega)
          exact ⟨key _ _ q1 hS.1, key _ _ q2 hS.2.1, key _ _ q2 hS.2.2.1, key _ _ (by rw [addr_block]; exact hb2) hS.2.2.2⟩
        have ne1 := World.new_ne w4 _ c2'
        have ne2 := World.new_ne w4 _ d2
        have ne3 := World.new_ne w4 _ d3
        have ne4 := World.new_ne w4 _ hcy
        have kb0 : (0 : Int) ≤ (k : Int) := Int.natCast_nonneg _
        have kb1 : (k : Int) < (ds.length : Int) := by omega
        have hwr : IntKind.i64.wrap (soff - IntKind.i64.wrap (doff - (doff - y))) = soff - y := by rw [IntKind.wrap_i64, IntKind.wrap_i64]; omega
        have hwr2 : IntKind.i64.wrap (soff - (doff - (doff - y))) = soff - y := by rw [IntKind.wrap_i64]; omega
        go_wp2
        go_region_held3 (fun w' => w'.cell? ⟨g, 2, none⟩ = some (.int .i64 soff) ∧ w'.cell? ⟨g2, 2, none⟩ = some (.int .i64 doff) ∧ w'.cell? ⟨g2, 3, none⟩ = some (.slice (some ad2) ds.length c2) ∧ w'.cell? (ad2.add k) = some (.int .i64 (doff - y)))
          (first
            | go_keep
            | exact hS2 _ _ hgr)
          ((refine step_append_qu _ (by rfl) (.tmp 135) (.tmp 153) 32 (by rfl) w.heap.size 2 i0 (.int .i64 0) 8 Try.underlying32 hi0 hz0 hz1 hz2 rfl u4 (qc soff l) (by rfl) (hqa _) ⟨w4.heap.size, 0, none⟩ 1 _ (by rfl) (hcellD _ _) rfl hby (by decide) (hbbD _) ?_; intro v' w' hq' hgr hbv))
        all_goals go_wp2
        all_goals
          refine ⟨⟨cs.length, k + 1, l ++ [y], by omega, by omega, by go_num, by go_num, ?_, ?_⟩, by simp [intOf]; omega⟩
          · have h1 := mrg_right (a := cs) (b := ds) hkL (.inl rfl)
            rw [hye] at h1
            have h2 := hl.out
            rw [h1] at h2
            exact Lib.hid (by rw [List.append_assoc]; exact h2)
          · have h1 := st.appD (x := y) hq' hgr
            rw [show (ssteps + ((l ++ [y]).length : Int)) = ssteps + l.length + 1 by simp; omega]
            exact h1

      · obtain rfl : k = ds.length := by omega
        have hl' : l = mrg cs ds := by
          have := hl.out
          rw [List.drop_length, List.drop_length] at this
          simpa [mrg] using this
        have hcnt : mrgN cs ds = l.length := by rw [mrgN_eq, ← hl']
        obtain ⟨A', c', rfl, _, _⟩ := st.out.sl
        have hq0 := st.out
        have hne' := hq0.ne_blk st.blk (by decide)
        rw [qc_length] at hq0 hne' ⊢
        have fin : ∀ f : Bool, f = (sfull || dfull) → SetIs (((wr.setCell ⟨g, 3, none⟩ (.slice A' l.length c')).setCell ⟨g, 4, none⟩ (.bool f)).setCell ⟨g, 5, none⟩ (.int .i64 (ssteps + l.length + 1))) g w.heap.size lo hi (St.merge ⟨soff, cs, sfull, ssteps⟩ ⟨doff, ds, dfull, dsteps⟩) ∧
            Fr w.heap.size g w (((wr.setCell ⟨g, 3, none⟩ (.slice A' l.length c')).setCell ⟨g, 4, none⟩ (.bool f)).setCell ⟨g, 5, none⟩ (.int .i64 (ssteps + l.length + 1))) := fun f hf => by
          refine ⟨⟨.slice A' l.length c', ?_, ?_⟩, ((st.fr.setCell (p := ⟨g, 3, none⟩) (.inr rfl) _).setCell (p := ⟨g, 4, none⟩) (.inr rfl) _).setCell (p := ⟨g, 5, none⟩) (.inr rfl) _⟩
          · have h1 := blk_set (blk_set (blk_set st.blk 3 (.slice A' l.length c')) 4 (.bool f)) 5 (.int .i64 (ssteps + l.length + 1))
            simp only [St.merge]
            rw [← hf, hcnt]
            exact h1
          · simp only [St.merge]
            rw [← hl']
            exact ((hq0.far (a := ⟨g, 3, none⟩) hne' _).far (a := ⟨g, 4, none⟩) hne' _).far (a := ⟨g, 5, none⟩) hne' _
        clear hl' hcnt hq0 hne' hl st Hmn
        cases sfull <;> cases dfull
        all_goals
          go_wp2
          go_end0
          exact ⟨rfl, fin _ rfl⟩
end Go.Proofs.Ytmfmniecoaihhaa
