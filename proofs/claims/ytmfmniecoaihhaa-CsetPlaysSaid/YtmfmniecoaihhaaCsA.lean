/- The walk of the statement CsetCounts. -/
import Derived.Test.YtmfmniecoaihhaaCsL
namespace Go.Proofs.Ytmfmniecoaihhaa
open Go.RowKit

/-- What a law knows: the scope's box, and that nothing which lay has turned. -/
structure Lw (w wi : World) (p : Nat) (lo hi : Int) : Prop where
  blk : wi.heap[p]? = some (.cells #[.int .i64 lo, .int .i64 hi] 28)
  ext : Below w.heap.size w wi
  lt : w.heap.size ≤ p
namespace Lw
variable {w wi wj : World} {p : Nat} {lo hi : Int}
theorem plt (h : Lw w wi p lo hi) : p < wi.heap.size := blk_lt h.blk
theorem size (h : Lw w wi p lo hi) : w.heap.size ≤ wi.heap.size := h.ext.size
theorem nextB {B : Nat} (h : Lw w wi p lo hi) (hb : Below B wi wj) (hB : p < B) : Lw w wj p lo hi := ⟨(hb.block p hB).trans h.blk, h.ext.trans (hb.mono (by have := h.lt; omega)), h.lt⟩
theorem next (h : Lw w wi p lo hi) (hb : Below wi.heap.size wi wj) : Lw w wj p lo hi := h.nextB hb h.plt
theorem fr {g : Nat} (h : Lw w wi p lo hi) (hf : Fr wi.heap.size g wi wj) (hg : p < g) : Lw w wj p lo hi :=
  ⟨(hf.block p h.plt (by omega)).trans h.blk, h.ext.trans (hf.below h.size (by have := h.lt; omega)), h.lt⟩
theorem drew (h : Lw w wi p lo hi) : Lw w wi.drew p lo hi := ⟨h.blk, ⟨h.ext.os, h.ext.tape, h.ext.output, h.ext.size, h.ext.block⟩, h.lt⟩
theorem drewN (h : Lw w wi p lo hi) (n : Nat) : Lw w (wi.drewN n) p lo hi := ⟨h.blk, ⟨h.ext.os, h.ext.tape, h.ext.output, h.ext.size, h.ext.block⟩, h.lt⟩
theorem cells (h : Lw w wi p lo hi) : wi.cell? ⟨p, 0, none⟩ = some (.int .i64 lo) ∧ wi.cell? ⟨p, 1, none⟩ = some (.int .i64 hi) := ⟨blk_cell h.blk 0, blk_cell h.blk 1⟩
end Lw
theorem three_cells {w : World} {g : Nat} {a b c : Value} {t : TypeId} (h : w.heap[g]? = some (.cells #[a, b, c] t)) : w.cell? ⟨g, 0, none⟩ = some a ∧ w.cell? ⟨g, 1, none⟩ = some b ∧ w.cell? ⟨g, 2, none⟩ = some c :=
  ⟨blk_cell h 0, blk_cell h 1, blk_cell h 2⟩

/-! #### the plain law: one count, made the next so often -/
def iterN (lo hi : Int) (k : Nat) : St := k.repeat (fun s => s.next lo hi) (St.new.begin lo hi)
theorem iterN_succ (lo hi : Int) (k : Nat) : iterN lo hi (k + 1) = (iterN lo hi k).next lo hi := rfl
theorem iterN_sane (lo hi : Int) (k : Nat) : (iterN lo hi k).Sane (2 + k) := by
  induction k with
  | zero => exact (St.sane_new 1 (by omega)).begin (by omega)
  | succ k ih =>
    rw [iterN_succ, show (2 + ((k + 1 : Nat) : Int)) = 2 + k + 1 by omega]
    exact ih.next
theorem iterN_cs {lo hi : Int} (hsc : Sc lo hi) (k : Nat) : ((iterN lo hi k).cs = if (k : Int) + 1 ≤ topZ lo hi then [(k : Int) + 1] else []) ∧ (iterN lo hi k).full = (opnB hi && decide (topZ lo hi < (k : Int) + 1)) := by
  have h1 := hsc.lo1
  have ht : 1 ≤ topZ lo hi := by
    rcases hsc.hi with ⟨e, h⟩ | ⟨h, _, _⟩
    · subst e; simp [topZ]; omega
    · rw [topZ, if_neg (by omega)]; omega
  induction k with
  | zero =>
    have e : iterN lo hi 0 = ⟨0, [1], false, 1⟩ := by
      show (St.new.begin lo hi) = _
      simp only [St.begin, St.bgn, St.new, St.trim, beg, tooBig]
      simp
      omega
    rw [e]
    simp
    omega
  | succ k ih =>
    rw [iterN_succ]
    obtain ⟨ih1, ih2⟩ := ih
    by_cases hk : (k : Int) + 1 ≤ topZ lo hi
    · rw [if_pos hk] at ih1
      have hfl : (iterN lo hi k).full = false := by rw [ih2]; simp; omega
      simp only [St.next, St.nxt, St.trim, ih1, hfl, List.map_cons, List.map_nil, tooBig]
      by_cases h2 : topZ lo hi < (k : Int) + 1 + 1
      · simp [h2]
      · simp [h2]
    · rw [if_neg hk] at ih1
      have hfl : (iterN lo hi k).full = opnB hi := by rw [ih2, decide_eq_true (by omega)]; simp
      simp only [St.next, St.nxt, St.trim, ih1, hfl, List.map_nil, tooBig]
      constructor
      · simp; omega
      · simp; intro _; omega

set_option maxRecDepth 100000 in
set_option maxHeartbeats 2000000 in
theorem counts_law (low span n : Int) (o : Bool) (w : World) (h0 : 0 ≤ low) (h1 : low ≤ 4294967295) (h2 : 0 ≤ span) (h3 : span ≤ 4294967295) (h4 : 0 ≤ n) (h5 : n ≤ 65535) :
    Calls Try.prog 3 #[.agg #[.int .u32 low, .int .u32 span, .bool o], .int .u16 n] w fun e w' => e = .returned (.bool true) ∧ Below w.heap.size w w' := by
  have hbox : (w.alloc (.cells #[.int .u32 low, .int .u32 span, .bool o] 24)).heap[w.heap.size]? = some (.cells #[.int .u32 low, .int .u32 span, .bool o] 24) := heap_alloc_new w _
  have hb0 : Below w.heap.size w (w.alloc (.cells #[.int .u32 low, .int .u32 span, .bool o] 24)) := (Below.refl _ w).alloc (Nat.le_refl _) _
  go_enter Try.func3, Try.ntmps3
  go_wp2_with fail
  refine (awake_any _).mono ?_
  rintro e w1 ⟨rfl, hb1⟩
  have hbox1 := blk_below hbox hb1
  obtain ⟨x0, x1, x2⟩ := three_cells hbox1
  have hb1' : Below w.heap.size w w1 := hb0.trans (hb1.mono (by simp))
  clear hbox hb0 hb1
  go_wp2_with fail
  refine (scope_any low span o w1 h0 h1 h2 h3).mono ?_
  rintro e w2 ⟨lo, hi, rfl, hsc, hb2⟩
  have lw : Lw w (w2.alloc (.cells #[.int .i64 lo, .int .i64 hi] 28)) w2.heap.size lo hi :=
    ⟨heap_alloc_new w2 _, (hb1'.trans (hb2.mono hb1'.size)).alloc (by have := hb1'.size; have := hb2.size; omega) _, by have := hb1'.size; have := hb2.size; omega⟩
  clear x0 x1 x2 hbox1 hb1' hb2
  go_wp2_with fail
  refine (new_any lo hi _).mono ?_
  rintro e w3 ⟨g, rfl, st, hg, hb3⟩
  obtain ⟨p, hp⟩ : ∃ p, p = w2.heap.size := ⟨_, rfl⟩
  rw [← hp] at lw ⊢
  have lw3 := lw.next hb3
  obtain ⟨base, hbase⟩ : ∃ base, base = (w2.alloc (.cells #[.int .i64 lo, .int .i64 hi] 28)).heap.size := ⟨_, rfl⟩
  rw [← hbase] at st hg hb3
  have hpb : p < base := by have := lw.plt; omega
  have hbs := hb3.size
  have hbs' : base ≤ w3.heap.size := by have : base = (w2.alloc (.cells #[.int .i64 lo, .int .i64 hi] 28)).heap.size := hbase; omega
  clear hbs hp hbase lw hb3
  obtain ⟨c0, c1⟩ := lw3.cells
  go_wp2_with fail
  refine (begin_any g base lo hi 1 St.new w3 hsc st (St.sane_new 1 (by omega)) (by omega) (by omega) hg hbs').mono ?_
  rintro e w4 ⟨rfl, st4, hb4⟩
  have lw4 := lw3.nextB hb4 hpb
  have hbs4 : base ≤ w4.heap.size := by have := hb4.size; omega
  clear st lw3 hb4 hbs' c0 c1
  obtain ⟨K, hK⟩ : ∃ K : Nat, n % 300 = K := ⟨(n % 300).toNat, by omega⟩
  have hK2 : K < 300 := by omega
  go_wp2
  rw [hK]
  have HK := Lib.hid hK
  clear hK
  go_loopw [8] (fun i wr => ∃ j : Nat, j ≤ K ∧ i = .int .i64 j ∧ SetIs wr g base lo hi (iterN lo hi j) ∧ Lw w wr p lo hi ∧ base ≤ wr.heap.size) (fun i _ => K - (intOf i).toNat)
  case atStart => exact ⟨0, by omega, rfl, st4, lw4, hbs4⟩
  case round =>
    clear st4 lw4 hbs4
    obtain ⟨j, hj, rfl, st, lwr, hbr⟩ := hrel
    obtain ⟨c0, c1⟩ := lwr.cells
    by_cases hlt : j < K
    · go_wp2_with fail
      refine (next_any g base lo hi _ _ wr hsc st (iterN_sane lo hi j) (by omega)).mono ?_
      rintro e w5 ⟨rfl, st5, hf5⟩
      go_wp2
      exact ⟨⟨j + 1, by omega, by go_num, st5, lwr.fr hf5 (by omega), by have := hf5.size; omega⟩, by simp [intOf]; omega⟩
    · obtain rfl : j = K := by omega
      go_wp2_with fail
      refine (counts_any g base lo hi (2 + j) (iterN lo hi j) wr hsc st (iterN_sane lo hi j) (by omega)).mono ?_
      rintro e w6 ⟨A, c, rfl, hsl, hb6, _⟩
      have lw6 := lwr.next hb6
      have st6 := st.below hb6
      obtain ⟨hcs, hfull⟩ := iterN_cs hsc j
      clear st c0 c1 lwr hb6
      obtain ⟨c0, c1⟩ := lw6.cells
      rcases hsc.hi with ⟨rfl, hlo⟩ | ⟨hh1, hh2, hh3⟩
      · have ht : topZ lo (-1) = lo - 1 := by simp [topZ]
        rw [ht] at hcs hfull
        by_cases hle : (j : Int) + 1 ≤ lo - 1
        · rw [if_pos hle] at hcs
          have hfl : (iterN lo (-1) j).full = false := by rw [hfull]; simp; omega
          have hL : (iterN lo (-1) j).counts lo = [(j : Int) + 1] := by simp [St.counts, hcs, hfl]
          have hdn : (iterN lo (-1) j).done lo = false := by simp [St.done, hcs, hfl]; omega
          rw [hL] at hsl ⊢
          obtain ⟨ad, rfl, hc⟩ := hsl.at_ (k := 0) (by simp)
          have hc0 : w6.cell? ad = some (.int .i64 ((j : Int) + 1)) := by
            have hc' : w6.cell? (ad.add 0) = some (.int .i64 ((j : Int) + 1)) := hc
            rwa [add0] at hc'
          clear hc
          have m1 : (if lo < (j : Int) + 1 then lo else (j : Int) + 1) = (j : Int) + 1 := by rw [if_neg (by omega)]
          have m2 : (j : Int) + 1 < lo := by omega
          have m3 : decide (lo ≤ (j : Int) + 1) = false := by simp; omega
          have m4 : ((j : Int) + 1 == (j : Int) + 1) = true := by simp
          have mw : IntKind.i64.wrap ((j : Int) + 1) = (j : Int) + 1 := by rw [IntKind.wrap_i64]; omega
          have g0 := cell_regrown c0
          have g1 := cell_regrown c1
          have gc := cell_regrown hc0
          have q1 := fun d os => Calls.regrown_of (done_any g base lo (-1) (2 + j) (iterN lo (-1) j) (Go.Sort.grow (redrawn w6 d) os) hsc (st6.below (below_regrown w6 d os)) (iterN_sane lo (-1) j) (by omega))
          rw [hdn] at q1
          clear hcs hfull hL hdn hsl
          go_wp2
          refine wp_region_quiet_below (by kernel_rfl) (by kernel_rfl) ?_
          repeat (quiet_step (fail))
          quiet_step (exact q1 _ _)
          repeat (quiet_step (fail))
          refine wpQuiet_nil ?_
          intro _ hw'
          obtain ⟨⟨dq, osq⟩, hw''⟩ := hw'
          subst hw''
          go_wp2
          go_ret
          exact ⟨rfl, lw6.ext.trans ((below_regrown w6 _ _).mono lw6.size)⟩

        · rw [if_neg hle] at hcs
          have hfl : (iterN lo (-1) j).full = true := by rw [hfull]; simp [opnB]; omega
          have hL : (iterN lo (-1) j).counts lo = [lo] := by simp [St.counts, hcs, hfl]
          have hdn : (iterN lo (-1) j).done lo = true := by simp [St.done, hfl]
          rw [hL] at hsl ⊢
          obtain ⟨ad, rfl, hc⟩ := hsl.at_ (k := 0) (by simp)
          have hc0 : w6.cell? ad = some (.int .i64 (lo)) := by
            have hc' : w6.cell? (ad.add 0) = some (.int .i64 (lo)) := hc
            rwa [add0] at hc'
          clear hc
          have m1 : (if lo < (j : Int) + 1 then lo else (j : Int) + 1) = lo := by split <;> omega
          have m3 : decide (lo ≤ (j : Int) + 1) = true := by simp; omega
          have m4 : (lo == lo) = true := by simp
          have mw : IntKind.i64.wrap ((j : Int) + 1) = (j : Int) + 1 := by rw [IntKind.wrap_i64]; omega
          have g0 := cell_regrown c0
          have g1 := cell_regrown c1
          have gc := cell_regrown hc0
          have q1 := fun d os => Calls.regrown_of (done_any g base lo (-1) (2 + j) (iterN lo (-1) j) (Go.Sort.grow (redrawn w6 d) os) hsc (st6.below (below_regrown w6 d os)) (iterN_sane lo (-1) j) (by omega))
          rw [hdn] at q1
          clear hcs hfull hL hdn hsl
          go_wp2
          refine wp_region_quiet_below (by kernel_rfl) (by kernel_rfl) ?_
          repeat (quiet_step (fail))
          quiet_step (exact q1 _ _)
          repeat (quiet_step (fail))
          refine wpQuiet_nil ?_
          intro _ hw'
          obtain ⟨⟨dq, osq⟩, hw''⟩ := hw'
          subst hw''
          go_wp2
          go_ret
          exact ⟨rfl, lw6.ext.trans ((below_regrown w6 _ _).mono lw6.size)⟩

      · have ht : topZ lo hi = hi := by rw [topZ, if_neg (by omega)]
        have hop : opnB hi = false := by simp [opnB]; omega
        rw [ht] at hcs hfull
        have hfl : (iterN lo hi j).full = false := by rw [hfull, hop]; rfl
        by_cases hle : (j : Int) + 1 ≤ hi
        · rw [if_pos hle] at hcs
          have hL : (iterN lo hi j).counts lo = [(j : Int) + 1] := by simp [St.counts, hcs, hfl]
          by_cases hdl : lo ≤ (j : Int) + 1
          · have hdn : (iterN lo hi j).done lo = true := by simp [St.done, hcs, hfl]; omega
            rw [hL] at hsl ⊢
            obtain ⟨ad, rfl, hc⟩ := hsl.at_ (k := 0) (by simp)
            have hc0 : w6.cell? ad = some (.int .i64 ((j : Int) + 1)) := by
              have hc' : w6.cell? (ad.add 0) = some (.int .i64 ((j : Int) + 1)) := hc
              rwa [add0] at hc'
            clear hc
            have m3 : decide (lo ≤ (j : Int) + 1) = true := by simp; omega
            have m4 : ((j : Int) + 1 == (j : Int) + 1) = true := by simp
            have m5 : ¬ hi < (j : Int) + 1 := by omega
            have m6 : ¬ hi < 0 := by omega
            have mw : IntKind.i64.wrap ((j : Int) + 1) = (j : Int) + 1 := by rw [IntKind.wrap_i64]; omega
            have g0 := cell_regrown c0
            have g1 := cell_regrown c1
            have gc := cell_regrown hc0
            have q1 := fun d os => Calls.regrown_of (done_any g base lo hi (2 + j) (iterN lo hi j) (Go.Sort.grow (redrawn w6 d) os) hsc (st6.below (below_regrown w6 d os)) (iterN_sane lo hi j) (by omega))
            rw [hdn] at q1
            clear hcs hfull hL hdn hsl
            go_wp2
            refine wp_region_quiet_below (by kernel_rfl) (by kernel_rfl) ?_
            repeat (quiet_step (fail))
            quiet_step (exact q1 _ _)
            repeat (quiet_step (fail))
            refine wpQuiet_nil ?_
            intro _ hw'
            obtain ⟨⟨dq, osq⟩, hw''⟩ := hw'
            subst hw''
            go_wp2
            go_ret
            exact ⟨rfl, lw6.ext.trans ((below_regrown w6 _ _).mono lw6.size)⟩

          · have hdn : (iterN lo hi j).done lo = false := by simp [St.done, hcs, hfl]; omega
            rw [hL] at hsl ⊢
            obtain ⟨ad, rfl, hc⟩ := hsl.at_ (k := 0) (by simp)
            have hc0 : w6.cell? ad = some (.int .i64 ((j : Int) + 1)) := by
              have hc' : w6.cell? (ad.add 0) = some (.int .i64 ((j : Int) + 1)) := hc
              rwa [add0] at hc'
            clear hc
            have m3 : decide (lo ≤ (j : Int) + 1) = false := by simp; omega
            have m4 : ((j : Int) + 1 == (j : Int) + 1) = true := by simp
            have m5 : ¬ hi < (j : Int) + 1 := by omega
            have m6 : ¬ hi < 0 := by omega
            have mw : IntKind.i64.wrap ((j : Int) + 1) = (j : Int) + 1 := by rw [IntKind.wrap_i64]; omega
            have g0 := cell_regrown c0
            have g1 := cell_regrown c1
            have gc := cell_regrown hc0
            have q1 := fun d os => Calls.regrown_of (done_any g base lo hi (2 + j) (iterN lo hi j) (Go.Sort.grow (redrawn w6 d) os) hsc (st6.below (below_regrown w6 d os)) (iterN_sane lo hi j) (by omega))
            rw [hdn] at q1
            clear hcs hfull hL hdn hsl
            go_wp2
            refine wp_region_quiet_below (by kernel_rfl) (by kernel_rfl) ?_
            repeat (quiet_step (fail))
            quiet_step (exact q1 _ _)
            repeat (quiet_step (fail))
            refine wpQuiet_nil ?_
            intro _ hw'
            obtain ⟨⟨dq, osq⟩, hw''⟩ := hw'
            subst hw''
            go_wp2
            go_ret
            exact ⟨rfl, lw6.ext.trans ((below_regrown w6 _ _).mono lw6.size)⟩

        · rw [if_neg hle] at hcs
          have hL : (iterN lo hi j).counts lo = [] := by simp [St.counts, hcs, hfl]
          have hdn : (iterN lo hi j).done lo = false := by simp [St.done, hcs, hfl]
          have hln : (iterN lo hi j).len = 0 := by simp [St.len, hcs, hfl]
          have q1 := len_any g base lo hi (2 + j) (iterN lo hi j) w6 st6 (iterN_sane lo hi j) (by omega)
          have q2 := done_any g base lo hi (2 + j) (iterN lo hi j) w6 hsc st6 (iterN_sane lo hi j) (by omega)
          rw [hln] at q1
          rw [hdn] at q2
          rw [hL] at hsl ⊢
          have m5 : hi < (j : Int) + 1 := by omega
          have m6 : ¬ hi < 0 := by omega
          clear hcs hfull hL hdn hln hfl
          go_wp2_with fail
          refine q1.mono ?_
          rintro e w7 ⟨rfl, rfl⟩
          go_wp2_with fail
          refine q2.mono ?_
          rintro e w7 ⟨rfl, hb7⟩
          go_wp2
          go_ret
          exact ⟨rfl, (lw6.next hb7).ext⟩
end Go.Proofs.Ytmfmniecoaihhaa
