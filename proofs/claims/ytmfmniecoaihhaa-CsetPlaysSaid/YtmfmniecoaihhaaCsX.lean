/- The walks of package cset: Next, Begin, Len, Steps, Done. -/
import Derived.Test.YtmfmniecoaihhaaCsW
import Derived.Lib.QuietBelow
namespace Go.Proofs.Ytmfmniecoaihhaa
open Go.RowKit

theorem qc_next (off : Int) (cs : List Int) : qc (off + 1) (cs.map (· + 1)) = qc off cs := by
  simp only [qc, List.map_map]
  apply List.map_congr_left
  intro c _
  simp only [Function.comp]
  congr 1
  omega
theorem SetIs.below {w w' : World} {g base : Nat} {lo hi : Int} {s : St} (h : SetIs w g base lo hi s) (hb : Below w.heap.size w w') : SetIs w' g base lo hi s := by
  obtain ⟨v, h1, h2⟩ := h
  exact ⟨v, blk_below h1 hb, h2.below hb⟩
theorem SetIs.lt {w : World} {g base : Nat} {lo hi : Int} {s : St} (h : SetIs w g base lo hi s) : g < w.heap.size := by
  obtain ⟨v, h1, h2⟩ := h
  exact blk_lt h1
/-- Another set's block may be written. -/
theorem SetIs.fr {w w' : World} {g g' base : Nat} {lo hi : Int} {s : St} (h : SetIs w g base lo hi s) (hf : Fr w.heap.size g' w w') (hne : g ≠ g') (hq : ∀ cs f, w.heap[g']? = some (.cells cs 50 f) → True := fun _ _ _ => trivial)
    (hg' : ∃ cs f, w.heap[g']? = some (.cells cs 50 f)) : SetIs w' g base lo hi s := by
  obtain ⟨v, h1, h2⟩ := h
  obtain ⟨cs, f, hg'⟩ := hg'
  refine ⟨v, (hf.block g (blk_lt h1) hne).trans h1, h2.keep fun k hk hlt => hf.block k hlt fun e => ?_⟩
  subst e
  exact h2.ne_blk hg' (by decide) hk

set_option maxHeartbeats 400000 in
theorem next_any (g base : Nat) (lo hi b : Int) (s : St) (w : World) (hsc : Sc lo hi) (h : SetIs w g base lo hi s) (hs : s.Sane b) (hk : b ≤ 500) :
    Calls Try.prog 12 #[.pointer (some ⟨g, 0, none⟩)] w fun e w' => e = .returned (.tuple #[]) ∧ SetIs w' g base lo hi (s.next lo hi) ∧ Fr w.heap.size g w w' := by
  obtain ⟨v, hblk, hq⟩ := h
  obtain ⟨A, c, rfl, hsl, hA⟩ := hq.sl
  obtain ⟨off, cs, full, steps⟩ := s
  have hs' := hs.nxt
  obtain ⟨c0, c1, c2, c3, c4, c5⟩ := six_cells hblk
  obtain ⟨f0, f1, f2, f3, f4, f5⟩ := six_frozen hblk
  have o0 := hs.off0
  have o1 := hs.off1
  have t0 := hs.st0
  have t1 := hs.st1
  have hne := hq.ne_blk hblk (by decide)
  dsimp only at o0 o1 t0 t1 c2 c3 c4 c5 hblk hq hne hsl
  have hset : SetIs ((w.setCell ⟨g, 5, none⟩ (.int .i64 (steps + 1))).setCell ⟨g, 2, none⟩ (.int .i64 (off + 1))) g base lo hi (St.nxt ⟨off, cs, full, steps⟩) := by
    refine ⟨_, blk_set (blk_set hblk 5 (.int .i64 (steps + 1))) 2 (.int .i64 (off + 1)), ?_⟩
    simp only [St.nxt, qc_next]
    exact (hq.far (a := ⟨g, 5, none⟩) hne _).far (a := ⟨g, 2, none⟩) hne _
  have hfr : Fr w.heap.size g w ((w.setCell ⟨g, 5, none⟩ (.int .i64 (steps + 1))).setCell ⟨g, 2, none⟩ (.int .i64 (off + 1))) := ((Fr.refl w.heap.size g w).setCell (p := ⟨g, 5, none⟩) (.inr rfl) _).setCell (p := ⟨g, 2, none⟩) (.inr rfl) _
  have htrim := trim_any g base lo hi (b + 1) _ _ hsc hset hs'.1 (by omega)
  clear hset hq hsl hA
  go_enter Try.func12, Try.ntmps12
  go_wp2_with fail
  refine htrim.mono ?_
  rintro e w' ⟨rfl, hset', hfr'⟩
  go_wp2
  go_end0
  exact ⟨rfl, hset', hfr.trans (hfr'.mono hfr.size)⟩

theorem len_any (g base : Nat) (lo hi b : Int) (s : St) (w : World) (h : SetIs w g base lo hi s) (hs : s.Sane b) (hk : b ≤ 1000) :
    Calls Try.prog 15 #[.pointer (some ⟨g, 0, none⟩)] w fun e w' => e = .returned (.int .i64 (s.len : Int)) ∧ w = w' := by
  obtain ⟨v, hblk, hq⟩ := h
  obtain ⟨A, c, rfl, hsl, hA⟩ := hq.sl
  obtain ⟨c0, c1, c2, c3, c4, c5⟩ := six_cells hblk
  have hl := hs.length
  rw [qc_length] at c3
  cases hf : s.full with
  | true =>
    rw [hf] at c4
    go_enter Try.func15, Try.ntmps15
    go_wp2
    go_ret
    rw [St.len, if_pos hf]
    exact ⟨rfl, rfl⟩
  | false =>
    rw [hf] at c4
    go_enter Try.func15, Try.ntmps15
    go_wp2
    go_ret
    rw [St.len, if_neg (by rw [hf]; decide)]
    exact ⟨rfl, rfl⟩

theorem steps_any (g base : Nat) (lo hi : Int) (s : St) (w : World) (h : SetIs w g base lo hi s) :
    Calls Try.prog 17 #[.pointer (some ⟨g, 0, none⟩)] w fun e w' => e = .returned (.int .i64 s.steps) ∧ w = w' := by
  obtain ⟨v, hblk, hq⟩ := h
  obtain ⟨c0, c1, c2, c3, c4, c5⟩ := six_cells hblk
  go_enter Try.func17, Try.ntmps17
  go_wp2
  go_ret
  exact ⟨rfl, rfl⟩

theorem new_any (lo hi : Int) (w : World) :
    Calls Try.prog 10 #[.agg #[.int .i64 lo, .int .i64 hi]] w fun e w' => ∃ g, e = .returned (.pointer (some ⟨g, 0, none⟩)) ∧ SetIs w' g w.heap.size lo hi St.new ∧ w.heap.size ≤ g ∧ Below w.heap.size w w' := by
  go_enter Try.func10, Try.ntmps10
  go_wp2
  go_ret
  refine ⟨w.heap.size + 1, rfl, ⟨.slice none 0 0, ?_, Qu.nil _ _ _⟩, by omega, ((Below.refl _ w).alloc (Nat.le_refl _) _).alloc (by simp) _⟩
  have := heap_alloc_new (w.alloc (.cells #[.int .i64 lo, .int .i64 hi] 28)) (.cells #[.int .i64 lo, .int .i64 hi, .int .i64 0, .slice none 0 0, .bool false, .int .i64 0] 50)
  rw [World.size_alloc] at this
  exact this

theorem pdone_any (lo hi n : Int) (w : World) :
    Calls Try.prog 26 #[.agg #[.int .i64 lo, .int .i64 hi], .int .i64 n] w fun e w' => e = .returned (.bool (decide (lo ≤ n))) ∧ Below w.heap.size w w' := by
  go_enter Try.func26, Try.ntmps26
  go_wp2
  go_ret
  exact ⟨rfl, (Below.refl _ w).alloc (Nat.le_refl _) _⟩

set_option maxHeartbeats 400000 in
theorem done_any (g base : Nat) (lo hi b : Int) (s : St) (w : World) (hsc : Sc lo hi) (h : SetIs w g base lo hi s) (hs : s.Sane b) (hk : b ≤ 1000) :
    Calls Try.prog 14 #[.pointer (some ⟨g, 0, none⟩)] w fun e w' => e = .returned (.bool (s.done lo)) ∧ Below w.heap.size w w' := by
  obtain ⟨v, hblk, hq⟩ := h
  obtain ⟨A, c, rfl, hsl, hA⟩ := hq.sl
  obtain ⟨off, cs, full, steps⟩ := s
  obtain ⟨c0, c1, c2, c3, c4, c5⟩ := six_cells hblk
  have o0 := hs.off0
  have o1 := hs.off1
  dsimp only at o0 o1 c2 c3 c4 c5
  cases full with
  | true =>
    go_enter Try.func14, Try.ntmps14
    go_wp2
    go_quiet (fail)
    go_wp2
    go_ret
    exact ⟨rfl, ⟨rfl, rfl, rfl, Nat.le_refl _, fun _ _ => rfl⟩⟩
  | false =>
    cases cs with
    | nil =>
      rw [show (qc off []).length = 0 from rfl] at c3
      go_enter Try.func14, Try.ntmps14
      go_wp2
      go_quiet (fail)
      go_wp2
      go_ret
      exact ⟨rfl, ⟨rfl, rfl, rfl, Nat.le_refl _, fun _ _ => rfl⟩⟩
    | cons x t =>
      obtain ⟨ad, rfl, hc⟩ := hsl.at_ (k := 0) (by simp [qc])
      have hc0 : w.cell? ad = some (.int .i64 (off - x)) := by
        have hc' : w.cell? (ad.add 0) = some (.int .i64 (off - x)) := hc
        rwa [add0] at hc'
      clear hc
      have hx := hs.mem x (List.mem_cons_self ..)
      have hlen : (qc off (x :: t)).length = t.length + 1 := by simp [qc]
      have hle := hs.length
      rw [List.length_cons] at hle
      rw [hlen] at c3
      have g0 := cell_regrown c0
      have g1 := cell_regrown c1
      have g2 := cell_regrown c2
      have g3 := cell_regrown c3
      have g4 := cell_regrown c4
      have gc := cell_regrown hc0
      have q1 := fun d os => Calls.regrown_of (pdone_any lo hi (IntKind.i64.wrap (off - (off - x))) (Go.Sort.grow (redrawn w d) os))
      clear c0 c1 c2 c3 c4 c5 hc0 hblk hq hsl hA
      go_enter Try.func14, Try.ntmps14
      go_wp2
      refine wp_region_quiet_below (by kernel_rfl) (by kernel_rfl) ?_
      repeat (quiet_step (fail))
      quiet_step (exact q1 _ _)
      repeat (quiet_step (fail))
      refine wpQuiet_nil ?_
      intro _ hw'
      obtain ⟨⟨dq, osq⟩, hw''⟩ := hw'
      subst hw''
      go_wp2
      go_ret
      refine ⟨?_, below_regrown _ _ _⟩
      show Ending.returned (.bool (decide (lo ≤ IntKind.i64.wrap (off - (off - x))))) = .returned (.bool (false || decide (lo ≤ x)))
      rw [show IntKind.i64.wrap (off - (off - x)) = x by rw [IntKind.wrap_i64]; omega, Bool.false_or]
end Go.Proofs.Ytmfmniecoaihhaa
