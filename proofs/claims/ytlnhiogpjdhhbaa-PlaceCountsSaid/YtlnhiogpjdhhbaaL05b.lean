/- The walk of the statement PlaceCounts. -/
import Derived.Test.YtlnhiogpjdhhbaaL05a
namespace Go.Proofs.Ytlnhiogpjdhhbaa.P
open Go.RowKit Go.Proofs.YtlnhiogpjdhhbaaW.PrintWords Go.Proofs.YtlnhiogpjdhhbaaW.PrintLast Go.Proofs.YtlnhiogpjdhhbaaW.PrintMore
set_option linter.unusedVariables false
set_option linter.unusedSimpArgs false

theorem wrapIn {n : Int} (h : -9223372036854775808 ≤ n) (k : n ≤ 9223372036854775807) : wrap64 n = n := by unfold wrap64; omega
def pcN (lo hi : Int) : S27 := ⟨4, ⟨0, 0, 0, 0⟩, [⟨0, ⟨0, 0, 0, 0⟩, [], 0, 0⟩], lo, hi⟩
theorem cnt_pcN (lo hi : Int) : cntT (pcN lo hi) ≤ 10000 := by
  simp [pcN, cntT, cntL]
theorem rcounts_eq (lo hi : Int) (h0 : 0 ≤ lo) (h1 : hi = -1 ∨ 0 ≤ hi) : ostinatoref05_Counts.f 4 0 0 0 0 (pcN lo hi).f2 lo hi = some (mx 1 lo, hi, ctB (pcN lo hi)) := by
  unfold ostinatoref05_Counts.f ctB pcN mx
  by_cases h : lo = 0
  · subst h
    rcases h1 with rfl | h1
    · rfl
    · by_cases h2 : hi > 1
      · simp [h2]
      · simp [h2, show ¬ hi < 0 by omega, show ¬ hi = -1 by omega]
  · have hm : (if (1 : Int) < lo then lo else 1) = lo := by split <;> omega
    rw [if_neg h, hm]
    rcases h1 with rfl | h1
    · simp
    · by_cases h2 : hi > 1
      · simp [h2]
      · simp [h2, show ¬ hi < 0 by omega, show ¬ hi = -1 by omega]
set_option maxHeartbeats 4000000 in
theorem placeCounts_any (lo hi ct : Int) (w : World) :
    Calls Try.prog 6 #[.int .i64 lo, .int .i64 hi, .int .i64 ct] w fun e w' => e = .returned (.bool true) ∧ Below w.heap.size w w' := by
  have hl := Tr.lit1 (Tr.nil w 0 0 0 ⟨0, 0, 0, 0⟩) 27 4 lo hi ⟨0, 0, 0, 0⟩
  have st0 := (St.refl w).alloc (.cells (nC ⟨0, ⟨0, 0, 0, 0⟩, [], 0, 0⟩ none 0).toArray 27)
  have bx0 : Bx (w.heap.size + 1) (pcN lo hi) (some ⟨w.heap.size, 0, none⟩) 1 ((w.alloc (.cells (nC ⟨0, ⟨0, 0, 0, 0⟩, [], 0, 0⟩ none 0).toArray 27)).alloc (.cells (nC (pcN lo hi) (some ⟨w.heap.size, 0, none⟩) 1).toArray 27)) :=
    ⟨by have := heap_alloc_new (w.alloc (.cells (nC ⟨0, ⟨0, 0, 0, 0⟩, [], 0, 0⟩ none 0).toArray 27)) (.cells (nC (pcN lo hi) (some ⟨w.heap.size, 0, none⟩) 1).toArray 27); rwa [World.size_alloc] at this, hl.alloc _⟩
  have st1 := st0.alloc (.cells (nC (pcN lo hi) (some ⟨w.heap.size, 0, none⟩) 1).toArray 27)
  clear hl st0
  unfold nC at bx0 st1
  go_enter Try.func6, Try.ntmps6
  go_wp2_with fail
  refine (awake_any _).mono ?_
  rintro e w1 ⟨rfl, hb1⟩
  have bx1 := bx0.later hb1
  have st2 := st1.later hb1
  clear bx0 st1 hb1
  obtain ⟨c0, c1, c2, c3, c4, c5, c6, c7, z0, z1, z2, z3, z4, z5, z6, z7⟩ := n_cells bx1.blk
  go_wp2_with fail
  have hfm := tr_formed _ _ _ w1 (Nat.le_trans (cnt_pcN lo hi) (by omega)) bx1.tr
  unfold ndV at hfm
  refine hfm.mono ?_
  rintro e w2 ⟨rfl, hb2⟩
  have bx2 := bx1.later hb2
  have st3 := st2.later hb2
  clear bx1 st2 hb2 c0 c1 c2 c3 c4 c5 c6 c7 z0 z1 z2 z3 z4 z5 z6 z7 hfm
  obtain ⟨c0, c1, c2, c3, c4, c5, c6, c7, z0, z1, z2, z3, z4, z5, z6, z7⟩ := n_cells bx2.blk
  cases hF : formedT (pcN lo hi) with
  | false =>
    go_wp2_with fail
    refine (awake_any _).mono ?_
    rintro e w3 ⟨rfl, hb3⟩
    go_wp2
    go_ret
    exact ⟨rfl, (st3.later hb3).ext⟩
  | true =>
  obtain ⟨_, h0, h1, h2⟩ := (formedT_kind hF).2.2.1 rfl
  change 0 ≤ lo at h0
  change lo ≤ 2147483647 at h1
  change hi = -1 ∨ lo ≤ hi ∧ hi ≤ 2147483647 at h2
  have hrc := rcounts_eq lo hi h0 (by omega)
  have hct : Calls Try.prog 15 #[.agg #[.int .i64 4, .int .u64 0, .int .u64 0, .int .u64 0, .int .u64 0, .slice (some ⟨w.heap.size, 0, none⟩) 1 1, .int .i64 lo, .int .i64 hi]] w2 fun e w' => e = .returned (.tuple #[.agg #[.int .i64 (mx 1 lo), .int .i64 hi], .bool (ctB (pcN lo hi))]) ∧ Below w2.heap.size w2 w' := tr_counts _ _ _ w2 bx2.tr
  have hcr : ∀ w', Tr w' (pcN lo hi) (some ⟨w.heap.size, 0, none⟩) 1 → Calls Try.prog 16 #[.agg #[.int .i64 4, .int .u64 0, .int .u64 0, .int .u64 0, .int .u64 0, .slice (some ⟨w.heap.size, 0, none⟩) 1 1, .int .i64 lo, .int .i64 hi]] w' fun e w'' => e = .returned (.tuple #[.agg #[.int .i64 (mx 1 lo), .int .i64 hi], .bool (ctB (pcN lo hi))]) ∧ Below w'.heap.size w' w'' :=
    fun w' h => ostinatoref05_Counts.calls 4 0 0 0 0 _ 1 (pcN lo hi).f2 lo hi _ _ _ w' h.row h.cap hrc
  generalize ctB (pcN lo hi) = b at *
  have hL : mx 1 lo = max 1 lo := by unfold mx; split <;> omega
  generalize mx 1 lo = L at *
  have HL := Lib.hid hL
  have HF := Lib.hid hF
  clear hL hF hrc
  replace c0 : w2.cell? ⟨w.heap.size + 1, 0, none⟩ = some (.int .i64 4) := c0
  replace c1 : w2.cell? ⟨w.heap.size + 1, 1, none⟩ = some (.int .u64 0) := c1
  replace c2 : w2.cell? ⟨w.heap.size + 1, 2, none⟩ = some (.int .u64 0) := c2
  replace c3 : w2.cell? ⟨w.heap.size + 1, 3, none⟩ = some (.int .u64 0) := c3
  replace c4 : w2.cell? ⟨w.heap.size + 1, 4, none⟩ = some (.int .u64 0) := c4
  replace c5 : w2.cell? ⟨w.heap.size + 1, 5, none⟩ = some (.slice (some ⟨w.heap.size, 0, none⟩) 1 1) := c5
  replace c6 : w2.cell? ⟨w.heap.size + 1, 6, none⟩ = some (.int .i64 lo) := c6
  replace c7 : w2.cell? ⟨w.heap.size + 1, 7, none⟩ = some (.int .i64 hi) := c7
  go_wp2_with fail
  refine hct.mono ?_
  rintro e w3 ⟨rfl, hb3⟩
  have bx3 := (bx2.later hb3).alloc (.cells #[.int .i64 L, .int .i64 hi] 45)
  have st4 := (st3.later hb3).alloc (.cells #[.int .i64 L, .int .i64 hi] 45)
  have hs3 := heap_alloc_new w3 (.cells #[.int .i64 L, .int .i64 hi] 45)
  clear bx2 st3 hb3 c0 c1 c2 c3 c4 c5 c6 c7 z0 z1 z2 z3 z4 z5 z6 z7 hct
  obtain ⟨c0, c1, c2, c3, c4, c5, c6, c7, z0, z1, z2, z3, z4, z5, z6, z7⟩ := n_cells bx3.blk
  replace c0 : (w3.alloc (.cells #[.int .i64 L, .int .i64 hi] 45)).cell? ⟨w.heap.size + 1, 0, none⟩ = some (.int .i64 4) := c0
  replace c1 : (w3.alloc (.cells #[.int .i64 L, .int .i64 hi] 45)).cell? ⟨w.heap.size + 1, 1, none⟩ = some (.int .u64 0) := c1
  replace c2 : (w3.alloc (.cells #[.int .i64 L, .int .i64 hi] 45)).cell? ⟨w.heap.size + 1, 2, none⟩ = some (.int .u64 0) := c2
  replace c3 : (w3.alloc (.cells #[.int .i64 L, .int .i64 hi] 45)).cell? ⟨w.heap.size + 1, 3, none⟩ = some (.int .u64 0) := c3
  replace c4 : (w3.alloc (.cells #[.int .i64 L, .int .i64 hi] 45)).cell? ⟨w.heap.size + 1, 4, none⟩ = some (.int .u64 0) := c4
  replace c5 : (w3.alloc (.cells #[.int .i64 L, .int .i64 hi] 45)).cell? ⟨w.heap.size + 1, 5, none⟩ = some (.slice (some ⟨w.heap.size, 0, none⟩) 1 1) := c5
  replace c6 : (w3.alloc (.cells #[.int .i64 L, .int .i64 hi] 45)).cell? ⟨w.heap.size + 1, 6, none⟩ = some (.int .i64 lo) := c6
  replace c7 : (w3.alloc (.cells #[.int .i64 L, .int .i64 hi] 45)).cell? ⟨w.heap.size + 1, 7, none⟩ = some (.int .i64 hi) := c7
  go_wp2_with fail
  refine (hcr _ bx3.tr).mono ?_
  rintro e w4 ⟨rfl, hb4⟩
  have hs4 := blk_alloc (blk_below hs3 hb4) (.cells #[.int .i64 L, .int .i64 hi] 45)
  have ht4 := heap_alloc_new w4 (.cells #[.int .i64 L, .int .i64 hi] 45)
  have st5 := (st4.later hb4).alloc (.cells #[.int .i64 L, .int .i64 hi] 45)
  clear bx3 st4 hb4 c0 c1 c2 c3 c4 c5 c6 c7 z0 z1 z2 z3 z4 z5 z6 z7 hcr hs3
  go_wp2_with fail
  obtain ⟨W0, hW0⟩ : ∃ W0, W0 = w4.alloc (.cells #[.int .i64 L, .int .i64 hi] 45) := ⟨_, rfl⟩
  rw [← hW0] at hs4 ht4 st5 ⊢
  have a0 : W0.cell? ⟨w3.heap.size, 0, none⟩ = some (.int .i64 L) := (blk_cell hs4 0).trans rfl
  have a1 : W0.cell? ⟨w3.heap.size, 1, none⟩ = some (.int .i64 hi) := (blk_cell hs4 1).trans rfl
  have b0 : W0.cell? ⟨w4.heap.size, 0, none⟩ = some (.int .i64 L) := (blk_cell ht4 0).trans rfl
  have b1 : W0.cell? ⟨w4.heap.size, 1, none⟩ = some (.int .i64 hi) := (blk_cell ht4 1).trans rfl
  have ka0 := cell_regrown a0
  have ka1 := cell_regrown a1
  have kb0 := cell_regrown b0
  have kb1 := cell_regrown b1
  have q1 := fun d os => Calls.regrown_of (place_Done.calls L hi ct (decide (ct ≥ L)) (Go.Sort.grow (redrawn W0 d) os) rfl)
  have st6 := fun d os => st5.later (below_regrown W0 d os)
  have hs6 := fun d os => blk_below hs4 (below_regrown W0 d os)
  have ht6 := fun d os => blk_below ht4 (below_regrown W0 d os)
  clear hs4 ht4 hW0 st5 a0 a1 b0 b1
  refine wp_region_quiet_below (by kernel_rfl) (by kernel_rfl) ?_
  repeat (quiet_step (fail))
  quiet_step (exact q1 _ _)
  repeat (quiet_step (fail))
  refine wpQuiet_nil ?_
  intro _ hw'
  obtain ⟨⟨dq, osq⟩, hw''⟩ := hw'
  subst hw''
  have st7 := st6 dq osq
  have hs7 := hs6 dq osq
  have ht7 := ht6 dq osq
  clear st6 hs6 ht6 ka0 ka1 kb0 kb1 q1
  dsimp only at *
  generalize Go.Sort.grow (redrawn W0 dq) osq = w7 at *
  have a0 : w7.cell? ⟨w3.heap.size, 0, none⟩ = some (.int .i64 L) := (blk_cell hs7 0).trans rfl
  have a1 : w7.cell? ⟨w3.heap.size, 1, none⟩ = some (.int .i64 hi) := (blk_cell hs7 1).trans rfl
  by_cases hlow : ct < 1
  · go_wp2
    go_ret
    exact ⟨rfl, st7.ext⟩
  by_cases hhigh : ct > 2147483648
  · go_wp2
    go_ret
    exact ⟨rfl, st7.ext⟩
  rcases h2 with rfl | h2
  · have hlo : mn ct (wrap64 (L - 1)) + 1 = min (ct + 1) L := by
      have e : wrap64 (L - 1) = L - 1 := by have := HL.out; exact wrapIn (by omega) (by omega)
      rw [e]; unfold mn; split <;> omega
    have hw1 : wrap64 (mn ct (wrap64 (L - 1)) + 1) = min (ct + 1) L := by rw [hlo]; have := HL.out; exact wrapIn (by omega) (by omega)
    have hnx := fun w => place_Next.calls L (-1) ct (min (ct + 1) L) true w (by unfold place_Next.f; rw [if_pos rfl, hw1])
    clear hlo hw1
    go_wp2_with fail
    refine (hnx _).mono ?_
    rintro e w8 ⟨rfl, hb8⟩
    have ht8 := blk_below ht7 hb8
    have b0 : w8.cell? ⟨w4.heap.size, 0, none⟩ = some (.int .i64 L) := (blk_cell ht8 0).trans rfl
    have st8 := st7.later hb8
    go_wp2
    all_goals
      go_ret
      refine ⟨?_, st8.ext⟩
      simp
      try omega
  · have hnx : ∃ r1 r2, place_Next.f L hi ct = some (r1, r2) ∧ (r2 = decide (ct < hi)) ∧ r1 = (if ct < hi then ct + 1 else 0) := by
      unfold place_Next.f
      rw [if_neg (by omega)]
      by_cases h : ct ≥ hi
      · rw [if_pos h]; exact ⟨_, _, rfl, (decide_eq_false (by omega)).symm, (if_neg (by omega)).symm⟩
      · rw [if_neg h]; exact ⟨_, _, rfl, (decide_eq_true (by omega)).symm, by rw [if_pos (by omega)]; exact wrapIn (by omega) (by omega)⟩
    obtain ⟨r1, r2, hf, h3, h4⟩ := hnx
    have hnx := fun w => place_Next.calls L hi ct r1 r2 w hf
    clear hf
    subst h3 h4
    by_cases hc : ct < hi
    · rw [decide_eq_true hc, if_pos hc] at hnx
      go_wp2_with fail
      refine (hnx _).mono ?_
      rintro e w8 ⟨rfl, hb8⟩
      have st8 := st7.later hb8
      have hge : decide (hi ≥ 0) = true := decide_eq_true (by omega)
      go_wp2
      all_goals
        go_ret
        exact ⟨by simp [hc], st8.ext⟩
    · rw [decide_eq_false hc, if_neg hc] at hnx
      go_wp2_with fail
      refine (hnx _).mono ?_
      rintro e w8 ⟨rfl, hb8⟩
      have st8 := st7.later hb8
      have hge : decide (hi ≥ 0) = true := decide_eq_true (by omega)
      go_wp2
      all_goals
        go_ret
        exact ⟨by simp [hc], st8.ext⟩
end Go.Proofs.Ytlnhiogpjdhhbaa.P
