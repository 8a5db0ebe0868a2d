/- The walk of package cset's Begin. -/
import Derived.Test.YtmfmniecoaihhaaCsX
import Derived.Deep.DrawnRows
namespace Go.Proofs.Ytmfmniecoaihhaa
open Go.RowKit

theorem fr_below {B g : Nat} {w w' : World} (h : Fr B g w w') {B' : Nat} (h1 : B' ≤ B) (h2 : B' ≤ g) : Below B' w w' := h.below h1 h2
theorem below_fr {B B' g : Nat} {w w1 w' : World} (h : Below B w w1) (k : Fr B' g w1 w') (h1 : B ≤ B') (h2 : B ≤ g) : Below B w w' :=
  h.trans (k.below h1 h2)
theorem qc_append (off : Int) (cs ds : List Int) : qc off (cs ++ ds) = qc off cs ++ qc off ds := by simp [qc]
theorem qc_get (off : Int) (cs : List Int) (k : Nat) (h : k < (qc off cs).length) : (qc off cs)[k] = .int .i64 (off - cs.getD k 0) := by
  have h' : k < cs.length := by simpa [qc] using h
  simp [qc, List.getD, List.getElem?_eq_getElem h']

theorem nil_or_snoc (l : List Int) : l = [] ∨ ∃ m x, l = m ++ [x] := by
  rcases List.eq_nil_or_concat l with h | ⟨m, x, h⟩
  · exact .inl h
  · exact .inr ⟨m, x, by rw [h, List.concat_eq_append]⟩

/-- What stands ahead of the last call. -/
theorem begin_app {w w' : World} {g base : Nat} {lo hi off : Int} {cs : List Int} {full : Bool} {steps : Int} {v v' : Value} {o : Obj}
    (hblk : w.heap[g]? = some (.cells #[.int .i64 lo, .int .i64 hi, .int .i64 off, v, .bool full, .int .i64 (steps + 1)] 50)) (hq : Qu w base 2 v (qc off cs)) (hbs : base ≤ w.heap.size)
    (hq' : Qu w' base 2 v' (qc off cs ++ [.int .i64 (off - 1)])) (hg : (w.alloc o).drew.grownBy w' v.ownBlock) (hbg : base ≤ g) :
    SetIs (w'.setCell ⟨g, 3, none⟩ v') g base lo hi ⟨off, cs ++ [1], full, steps + 1⟩ ∧ Below base w (w'.setCell ⟨g, 3, none⟩ v') := by
  have hblk' : w'.heap[g]? = some (.cells #[.int .i64 lo, .int .i64 hi, .int .i64 off, v, .bool full, .int .i64 (steps + 1)] 50) :=
    blk_grown (w := (w.alloc o).drew) (blk_alloc hblk o) hg (hq.ne_blk hblk (by decide))
  refine ⟨⟨v', blk_set hblk' 3 v', ?_⟩, ?_⟩
  · rw [qc_append]
    exact hq'.far (a := ⟨g, 3, none⟩) (hq'.ne_blk hblk' (by decide)) _
  · have h1 : Below base w (w.alloc o).drew := by
      have := (Below.refl base w).alloc hbs o
      exact ⟨this.os, this.tape, this.output, this.size, this.block⟩
    exact (h1.grown hg (by show base ≤ (w.heap.push o).size; rw [Array.size_push]; omega) (fun k e => (hq.lt k e).1)).setCell (p := ⟨g, 3, none⟩) hbg _

set_option maxHeartbeats 1000000 in
theorem begin_any (g base : Nat) (lo hi b : Int) (s : St) (w : World) (hsc : Sc lo hi) (h : SetIs w g base lo hi s) (hs : s.Sane b) (hb1 : 1 ≤ b) (hk : b ≤ 500) (hbg : base ≤ g) (hbs : base ≤ w.heap.size) :
    Calls Try.prog 11 #[.pointer (some ⟨g, 0, none⟩)] w fun e w' => e = .returned (.tuple #[]) ∧ SetIs w' g base lo hi (s.begin lo hi) ∧ Below base w w' := by
  obtain ⟨i0, hi0, hz0, hz1, hz2⟩ := info_parts infoI
  obtain ⟨v, hblk, hq⟩ := h
  obtain ⟨A, c, rfl, hsl, hA⟩ := hq.sl
  obtain ⟨off, cs, full, steps⟩ := s
  have hs' := hs.bgn hb1
  have o0 := hs.off0
  have o1 := hs.off1
  have t0 := hs.st0
  have t1 := hs.st1
  have hle := hs.length
  rw [qc_length] at hblk hq
  dsimp only at o0 o1 t0 t1 hblk hq hsl hle
  have hne := hq.ne_blk hblk (by decide)
  obtain ⟨c0, c1, c2, c3, c4, c5⟩ := six_cells hblk
  obtain ⟨f0, f1, f2, f3, f4, f5⟩ := six_frozen hblk
  have hb0 : Below base w (w.setCell ⟨g, 5, none⟩ (.int .i64 (steps + 1))) := (Below.refl base w).setCell (p := ⟨g, 5, none⟩) hbg _
  have hblk0 := blk_set hblk 5 (.int .i64 (steps + 1))
  have hq0 := hq.far (a := ⟨g, 5, none⟩) hne (.int .i64 (steps + 1))
  have hsz : (w.setCell ⟨g, 5, none⟩ (.int .i64 (steps + 1))).heap.size = w.heap.size := by simp [World.setCell]
  go_enter Try.func11, Try.ntmps11
  go_wp2
  obtain ⟨w1, hw1⟩ : ∃ w1, w1 = w.setCell ⟨g, 5, none⟩ (.int .i64 (steps + 1)) := ⟨_, rfl⟩
  rw [← hw1] at hb0 hblk0 hq0 hsz ⊢
  clear hw1 hblk hq c0 c1 c2 c3 c4 c5 f0 f1 f2 f3 f4 f5 hne
  have hblk1 : w1.heap[g]? = some (.cells #[.int .i64 lo, .int .i64 hi, .int .i64 off, .slice A cs.length c, .bool full, .int .i64 (steps + 1)] 50) := hblk0
  clear hblk0
  have hsl1 : Sl w1 A c (qc off cs) := by
    obtain ⟨A', c', he, h', _⟩ := hq0.sl
    rw [qc_length] at he
    injection he with h1 h2 h3
    subst h1 h3
    exact h'
  clear hsl hA
  cases hbg1 : beg cs with
  | false =>
    obtain ⟨m, rfl⟩ := St.beg_false hbg1
    obtain ⟨ad, rfl, hc⟩ := hsl1.at_ (k := m.length) (by simp [qc])
    have hc0 : w1.cell? (ad.add m.length) = some (.int .i64 (off - 1)) := by
      rw [hc, qc_get]
      simp [List.getD]
    clear hc
    rw [show (m ++ [(1 : Int)]).length = m.length + 1 by simp] at hblk1 hq0 hle ⊢
    obtain ⟨c0, c1, c2, c3, c4, c5⟩ := six_cells hblk1
    have hd1 : ((off - (off - 1)) == 1) = true := by simp; omega
    have hd2 : ((off - (off - 1)) != 1) = false := by simp; omega
    have he0 : ((m.length : Int) + 1 == 0) = false := by simp; omega
    go_quiet (fail)
    have hset : ∀ n, SetIs (w1.drewN n) g base lo hi ⟨off, m ++ [1], full, steps + 1⟩ := fun n => ⟨_, hblk1, hq0.keep fun _ _ _ => rfl⟩
    have htrim := fun n => trim_any g base lo hi (b + 1) _ _ hsc (hset n) (by simpa [St.bgn, hbg1] using hs'.1) (by omega)
    go_wp2_with fail
    refine (htrim _).mono ?_
    rintro e w' ⟨rfl, hset', hfr'⟩
    go_wp2
    go_end0
    refine ⟨rfl, by simpa [St.begin, St.bgn, hbg1] using hset', below_fr hb0 ((fr_drewN w1.heap.size g w1 _).trans hfr') (by omega) hbg⟩
  | true =>
    have fin : ∀ w3 : World, SetIs w3 g base lo hi ⟨off, cs ++ [1], full, steps + 1⟩ → Below base w w3 → base ≤ w3.heap.size →
        Calls Try.prog 24 #[.pointer (some ⟨g, 0, none⟩)] w3 fun e w' => e = .returned (.tuple #[]) ∧ SetIs w' g base lo hi (St.begin lo hi ⟨off, cs, full, steps⟩) ∧ Below base w w' := fun w3 h3 h4 h5 => by
      refine (trim_any g base lo hi (b + 1) _ w3 hsc h3 (by simpa [St.bgn, hbg1] using hs'.1) (by omega)).mono ?_
      rintro e w' ⟨rfl, hset', hfr'⟩
      exact ⟨rfl, by simpa [St.begin, St.bgn, hbg1] using hset', below_fr h4 hfr' h5 hbg⟩
    have app : ∀ (o : Obj) (w2 w' : World) (v' : Value), (∃ n, w2 = w1.drewN n) → Qu w' base 2 v' (qc off cs ++ [.int .i64 (off - 1)]) → (w2.alloc o).drew.grownBy w' (Value.slice A cs.length c).ownBlock →
        Calls Try.prog 24 #[.pointer (some ⟨g, 0, none⟩)] (w'.setCell ⟨g, 3, none⟩ v') fun e w' => e = .returned (.tuple #[]) ∧ SetIs w' g base lo hi (St.begin lo hi ⟨off, cs, full, steps⟩) ∧ Below base w w' := fun o w2 w' v' ⟨n, hn⟩ h1 h2 => by
      subst hn
      obtain ⟨k1, k2⟩ := begin_app (w := w1.drewN n) (o := o) hblk1 (hq0.keep fun _ _ _ => rfl) (by show base ≤ w1.heap.size; omega) h1 h2 hbg
      have k3 := hb0.trans (show Below base w1 (w'.setCell ⟨g, 3, none⟩ v') from ⟨k2.os, k2.tape, k2.output, k2.size, k2.block⟩)
      exact fin _ k1 k3 (by have := k3.size; omega)
    have hwr : IntKind.i64.wrap (off - 1) = off - 1 := by rw [IntKind.wrap_i64]; omega
    rcases nil_or_snoc cs with rfl | ⟨m, x, rfl⟩
    · rw [show ([] : List Int).length = 0 from rfl] at hblk1 hq0 app ⊢
      obtain ⟨c0, c1, c2, c3, c4, c5⟩ := six_cells hblk1
      obtain ⟨f0, f1, f2, f3, f4, f5⟩ := six_frozen hblk1
      go_quiet (fail)
      obtain ⟨w2, hw2⟩ : ∃ w2, w2 = w1.drewN nq := ⟨_, rfl⟩
      have happ := fun o w' v' => app o w2 w' v' ⟨nq, hw2⟩
      rw [← hw2]
      have hblk2 : w2.heap[g]? = some (.cells #[.int .i64 lo, .int .i64 hi, .int .i64 off, .slice A 0 c, .bool full, .int .i64 (steps + 1)] 50) := by rw [hw2]; exact hblk1
      have hq2 : Qu w2 base 2 (.slice A 0 c) (qc off []) := by rw [hw2]; exact hq0.keep fun _ _ _ => rfl
      have hsz2 : base ≤ w2.heap.size := by rw [hw2]; show base ≤ w1.heap.size; omega
      clear hw2 hblk1 hq0 hsz app fin hsl1 hb0 c0 c1 c2 c3 c4 c5 f0 f1 f2 f3 f4 f5
      obtain ⟨c0, c1, c2, c3, c4, c5⟩ := six_cells hblk2
      obtain ⟨f0, f1, f2, f3, f4, f5⟩ := six_frozen hblk2
      have hqa : ∀ o, Qu (w2.alloc o).drew base 2 (.slice A 0 c) (qc off []) := fun o => (hq2.alloc o).drew
      have hcell : ∀ (u : Value) (t : TypeId), (w2.alloc (.cells #[u] t)).drew.cell? ((⟨w2.heap.size, 0, none⟩ : Addr).add 0) = some u := fun u t => by
        have := cell_one_new w2 u t 0 u rfl
        simpa using this
      have hbb : ∀ o, base ≤ (w2.alloc o).drew.heap.size := fun o => by show base ≤ (w2.heap.push o).size; rw [Array.size_push]; omega
      have hnext : ∀ o w', (w2.alloc o).drew.grownBy w' (Value.slice A 0 c).ownBlock → w'.heap[g]? = some (.cells #[.int .i64 lo, .int .i64 hi, .int .i64 off, .slice A 0 c, .bool full, .int .i64 (steps + 1)] 50) := fun o w' hg =>
        blk_grown (w := (w2.alloc o).drew) (blk_alloc hblk2 o) hg (hq2.ne_blk hblk2 (by decide))
      have hby : ((qc off []).length + 1) * 8 ≤ 140737488355328 := by simp [qc]
      have hgl := blk_lt hblk2
      clear hblk2 hq2
      go_wp2
      go_region_law (refine step_append_qu _ rfl (.tmp 37) (.tmp 43) 32 rfl base 2 i0 (.int .i64 0) 8 Try.underlying32 hi0 hz0 hz1 hz2 rfl (.slice A 0 c) (qc off []) (by simp [Act.eval, Act.put]) (hqa _) ⟨w2.heap.size, 0, none⟩ 1 _ (by simp [Act.eval, Act.put] <;> rfl) (hcell _ _) rfl hby (by decide) (hbb _) ?_; intro v' w' hq' hgr hbv; have hblk' := hnext _ _ hgr; obtain ⟨A', c', hv, hsl', hbk⟩ := hq'.sl; subst hv; obtain ⟨d0, d1, d2, d3, d4, d5⟩ := six_cells hblk'; obtain ⟨e0, e1, e2, e3, e4, e5⟩ := six_frozen hblk')
      all_goals go_wp2_with fail
      all_goals
        simp only [List.length_append, List.length_singleton] at hq'
        refine (happ _ _ _ hq' hgr).mono ?_
        rintro e w'' ⟨rfl, h1, h2⟩
        go_wp2
        go_end0
        exact ⟨rfl, h1, h2⟩
    · obtain ⟨ad, rfl, hc⟩ := hsl1.at_ (k := m.length) (by simp [qc])
      have hc0 : w1.cell? (ad.add m.length) = some (.int .i64 (off - x)) := by
        rw [hc, qc_get]
        simp [List.getD]
      clear hc
      have hx := hs.mem x (by simp)
      have hx1 : x ≠ 1 := by
        rintro rfl
        simp [beg] at hbg1
      rw [show (m ++ [x]).length = m.length + 1 by simp] at hblk1 hq0 hle app ⊢
      have hd1 : ((off - (off - x)) == 1) = false := by simp; omega
      have hd2 : ((off - (off - x)) != 1) = true := by simp; omega
      have he0 : ((m.length : Int) + 1 == 0) = false := by simp; omega
      obtain ⟨c0, c1, c2, c3, c4, c5⟩ := six_cells hblk1
      obtain ⟨f0, f1, f2, f3, f4, f5⟩ := six_frozen hblk1
      go_quiet (fail)
      obtain ⟨w2, hw2⟩ : ∃ w2, w2 = w1.drewN nq := ⟨_, rfl⟩
      have happ := fun o w' v' => app o w2 w' v' ⟨nq, hw2⟩
      rw [← hw2]
      have hblk2 : w2.heap[g]? = some (.cells #[.int .i64 lo, .int .i64 hi, .int .i64 off, .slice (some ad) (m.length + 1) c, .bool full, .int .i64 (steps + 1)] 50) := by rw [hw2]; exact hblk1
      have hq2 : Qu w2 base 2 (.slice (some ad) (m.length + 1) c) (qc off (m ++ [x])) := by rw [hw2]; exact hq0.keep fun _ _ _ => rfl
      have hsz2 : base ≤ w2.heap.size := by rw [hw2]; show base ≤ w1.heap.size; omega
      clear hw2 hblk1 hq0 hsz app fin hsl1 hb0 c0 c1 c2 c3 c4 c5 f0 f1 f2 f3 f4 f5
      obtain ⟨c0, c1, c2, c3, c4, c5⟩ := six_cells hblk2
      obtain ⟨f0, f1, f2, f3, f4, f5⟩ := six_frozen hblk2
      have hqa : ∀ o, Qu (w2.alloc o).drew base 2 (.slice (some ad) (m.length + 1) c) (qc off (m ++ [x])) := fun o => (hq2.alloc o).drew
      have hcell : ∀ (u : Value) (t : TypeId), (w2.alloc (.cells #[u] t)).drew.cell? ((⟨w2.heap.size, 0, none⟩ : Addr).add 0) = some u := fun u t => by
        have := cell_one_new w2 u t 0 u rfl
        simpa using this
      have hbb : ∀ o, base ≤ (w2.alloc o).drew.heap.size := fun o => by show base ≤ (w2.heap.push o).size; rw [Array.size_push]; omega
      have hnext : ∀ o w', (w2.alloc o).drew.grownBy w' (Value.slice (some ad) (m.length + 1) c).ownBlock → w'.heap[g]? = some (.cells #[.int .i64 lo, .int .i64 hi, .int .i64 off, .slice (some ad) (m.length + 1) c, .bool full, .int .i64 (steps + 1)] 50) := fun o w' hg =>
        blk_grown (w := (w2.alloc o).drew) (blk_alloc hblk2 o) hg (hq2.ne_blk hblk2 (by decide))
      have hby : ((qc off (m ++ [x])).length + 1) * 8 ≤ 140737488355328 := by simp only [qc_length, List.length_append, List.length_singleton]; omega
      have hgl := blk_lt hblk2
      clear hblk2 hq2
      go_wp2
      go_region_law (refine step_append_qu _ rfl (.tmp 37) (.tmp 43) 32 rfl base 2 i0 (.int .i64 0) 8 Try.underlying32 hi0 hz0 hz1 hz2 rfl (.slice (some ad) (m.length + 1) c) (qc off (m ++ [x])) (by simp [Act.eval, Act.put]) (hqa _) ⟨w2.heap.size, 0, none⟩ 1 _ (by simp [Act.eval, Act.put] <;> rfl) (hcell _ _) rfl hby (by decide) (hbb _) ?_; intro v' w' hq' hgr hbv; have hblk' := hnext _ _ hgr; obtain ⟨A', c', hv, hsl', hbk⟩ := hq'.sl; subst hv; obtain ⟨d0, d1, d2, d3, d4, d5⟩ := six_cells hblk'; obtain ⟨e0, e1, e2, e3, e4, e5⟩ := six_frozen hblk')
      all_goals go_wp2_with fail
      all_goals
        simp only [List.length_append, List.length_singleton] at hq'
        refine (happ _ _ _ hq' hgr).mono ?_
        rintro e w'' ⟨rfl, h1, h2⟩
        go_wp2
        go_end0
        exact ⟨rfl, h1, h2⟩
end Go.Proofs.Ytmfmniecoaihhaa
