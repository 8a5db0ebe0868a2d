/- ClassTwice: the walk. -/
import Derived.Test.YthknfjiggdkcaaaDoorPt10
namespace Go.Proofs.YthknfjiggdkcaaaDoor
open Go.RowKit Go.Maps
set_option linter.unusedVariables false
set_option linter.unusedSimpArgs false
attribute [local go_sem ↓] appS
abbrev c4V (a : Cw) : List Value := [.int .u64 (a 0), .int .u64 (a 1), .int .u64 (a 2), .int .u64 (a 3)]
/-- Two classes put behind a row. -/
theorem app_two (W : World) (n₀ : Nat) (v : Value) (xs : List Cw) (hrow : W.ownsRow n₀ 24 4 v xs.length (ccells xs)) (hn₀ : n₀ ≤ W.heap.size) (hl : xs.length ≤ 1000) (a b : Cw) :
    ∃ g c w', (AppS #[35, 35] 35 #[v, .slice (some ⟨W.heap.size, 0, none⟩) 2 2]).run Tryd.prog (W.alloc (.cells #[.int .u64 (a 0), .int .u64 (a 1), .int .u64 (a 2), .int .u64 (a 3), .int .u64 (b 0), .int .u64 (b 1), .int .u64 (b 2), .int .u64 (b 3)] 24)) = .ok (.slice (some ⟨g, 0, none⟩) (xs.length + 2) c) w' ∧
      w'.ownsRow n₀ 24 4 (.slice (some ⟨g, 0, none⟩) (xs.length + 2) c) (xs ++ [a, b]).length (ccells (xs ++ [a, b])) ∧ W.grownBy w' v.ownBlock := by
  obtain ⟨i0, hi, hz0, hz1, hz2⟩ := info_parts infoCls
  obtain ⟨v', w', hr, h2, h3, _⟩ := run_append_own_at (P := Tryd.prog) (W.alloc (.cells #[.int .u64 (a 0), .int .u64 (a 1), .int .u64 (a 2), .int .u64 (a 3), .int .u64 (b 0), .int .u64 (b 1), .int .u64 (b 2), .int .u64 (b 3)] 24)) n₀ 35 35 24 i0 _ 4 32 Tryd.underlying35 hi hz0 hz1 hz2 rfl (by omega) v xs.length (ccells xs) (World.ownsRow.alloc hrow _) ⟨W.heap.size, 0, none⟩ 2 2 (c4V a ++ c4V b) rfl
    (fun j x hx => by
      rw [Addr.add_lit, Nat.zero_add]
      rw [blk_cell (heap_alloc_new W _) j]
      simpa using hx) (by simp [Value.oneCell']) (by unfold maxLen; omega) (by omega) (by simp; omega)
  obtain ⟨g', cap', rfl⟩ := ownsRow_succ h2
  refine ⟨g', cap', w', hr, ?_, ⟨h3.os, h3.tape, h3.output, by have := h3.size; simp at this; omega, fun k hk hne => (h3.block k (by simp; omega) hne).trans (Below.heap_alloc W _ k hk)⟩⟩
  rw [ccells_append, List.length_append]
  exact h2
theorem app_one (W : World) (n₀ : Nat) (v : Value) (xs : List Cw) (hrow : W.ownsRow n₀ 24 4 v xs.length (ccells xs)) (hn₀ : n₀ ≤ W.heap.size) (hl : xs.length ≤ 1000) (a : Cw) :
    ∃ g c w', (AppS #[35, 35] 35 #[v, .slice (some ⟨W.heap.size, 0, none⟩) 1 1]).run Tryd.prog (W.alloc (.cells #[.int .u64 (a 0), .int .u64 (a 1), .int .u64 (a 2), .int .u64 (a 3)] 24)) = .ok (.slice (some ⟨g, 0, none⟩) (xs.length + 1) c) w' ∧
      w'.ownsRow n₀ 24 4 (.slice (some ⟨g, 0, none⟩) (xs.length + 1) c) (xs ++ [a]).length (ccells (xs ++ [a])) ∧ W.grownBy w' v.ownBlock := by
  obtain ⟨i0, hi, hz0, hz1, hz2⟩ := info_parts infoCls
  obtain ⟨g, c, w', h1, h2, h3⟩ := app_row (P := Tryd.prog) W 35 24 _ 4 32 Tryd.underlying35 hi hz0 hz1 hz2 rfl (by omega) v xs.length (ccells xs) hrow hn₀ (c4V a) rfl (by simp [Value.oneCell']) (by omega) (by omega)
  refine ⟨g, c, w', h1, ?_, h3⟩
  rw [ccells_append, List.length_append]
  exact h2
theorem ow_below {w w' : World} {base : Nat} {v : Value} {xs : List Cw} (h : w.ownsRow base 24 4 v xs.length (ccells xs)) (hb : Below w.heap.size w w') : w'.ownsRow base 24 4 v xs.length (ccells xs) := by
  refine ⟨h.1, ?_⟩
  rcases h.2 with hn | ⟨g, cap, cur, rfl, hbb, hg, r⟩
  · exact .inl hn
  · exact .inr ⟨g, cap, cur, rfl, hbb, (hb.block g (blk_lt hg)).trans hg, r⟩
set_option maxHeartbeats 8000000 in
theorem classTwice_any (l : List Cw) (hl : AllW l) (p : Nat) (hp : p ≤ 255) (A : Option Addr) (c : Nat) (w : World) (hs : Cs w A c l) (hall : w.cell? ⟨0, 0, none⟩ = some (.int .i64 256)) :
    Calls Tryd.prog 5 #[.slice A l.length c, .int .u8 (p : Int)] w fun e w' => e = .returned (.bool true) ∧ Below w.heap.size w w' := by
  have hcap := hs.cap
  have hmax := hs.max
  have HL := Lib.hid hl
  clear hl
  go_enter Tryd.func5, Tryd.ntmps5
  go_wp2_with fail
  refine (awake_any _).mono ?_
  rintro e w0 ⟨rfl, hb0⟩
  by_cases hn : 20 < l.length
  · have hnz : (l.length : Int) > 20 := by omega
    go_wp2_with fail
    refine (awake_any _).mono ?_
    rintro e w1 ⟨rfl, hb1⟩
    go_wp2
    go_ret
    exact ⟨rfl, ext_trans hb0 hb1⟩
  have hnz : ¬ (l.length : Int) > 20 := by omega
  by_cases h0 : l.length = 0
  · have h0z : (l.length : Int) = 0 := by omega
    have h0y : ((l.length : Int) == 0) = true := by simp [h0]
    go_wp2_with fail
    refine (awake_any _).mono ?_
    rintro e w1 ⟨rfl, hb1⟩
    go_wp2
    go_ret
    exact ⟨rfl, ext_trans hb0 hb1⟩
  have h0z : ¬ (l.length : Int) = 0 := by omega
  have h0y : ((l.length : Int) == 0) = false := beq_eq_false_iff_ne.2 h0z
  have hs0 := hs.below hb0
  have hall0 := (hb0.cell (World.block_lt_of_cell? w _ hall)).trans hall
  clear hs hall
  go_wp2_with fail
  go_loopw [5, 6] (fun m i wr => ∃ n : Nat, n ≤ l.length ∧ i = .int .i64 n ∧ wr.ownsRow w0.heap.size 24 4 m (rot l p n).length (ccells (rot l p n)) ∧ Below w0.heap.size w0 wr) (fun _ i _ => l.length - (intOf i).toNat)
  case atStart => exact ⟨0, by omega, rfl, World.ownsRow_nil _ _ _ _, Below.refl _ _⟩
  case round =>
    obtain ⟨n, hnl, rfl, hown, hb⟩ := hrel
    by_cases hlt : n < l.length
    · have hlz : (n : Int) < (l.length : Int) := by omega
      obtain ⟨q, hq⟩ : ∃ q, q = (n + p) % l.length := ⟨_, rfl⟩
      have hql : q < l.length := by rw [hq]; exact Nat.mod_lt _ (by omega)
      have hqi : ((n : Int) + (p : Int)) % (l.length : Int) = (q : Int) := by rw [hq, Int.natCast_emod, Int.natCast_add]
      have hqt : Int.tmod ((n : Int) + (p : Int)) (l.length : Int) = (q : Int) := by rw [Int.tmod_eq_emod_of_nonneg (by omega)]; exact hqi
      have hw1 : IntKind.i64.wrap ((n : Int) + (p : Int)) = (n : Int) + (p : Int) := by rw [IntKind.wrap_i64]; omega
      have hw0 : IntKind.i64.wrap (p : Int) = (p : Int) := by rw [IntKind.wrap_i64]; omega
      have hw2 : IntKind.i64.wrap (q : Int) = (q : Int) := by rw [IntKind.wrap_i64]; omega
      have hqz : (q : Int) < (l.length : Int) := by omega
      obtain ⟨ad, rfl, a0, a1, a2, a3⟩ := (hs0.below hb).at_ hql
      obtain ⟨g, c3, w3, hr, ho3, hg3⟩ := app_one wr w0.heap.size _ _ hown hb.size (by rw [rot_len]; omega) (clAt l q)
      have hb3 := hb.grown hg3 hb.size (fun k e => by have := World.ownsRow.lt hown k e; omega)
      rw [rot_len] at hr ho3
      rw [hq, ← rot_succ] at ho3
      have HO := Lib.hid ho3
      have HG := Lib.hid hb3
      have HQ := Lib.hid hq
      clear ho3 hg3 hb3 hq hown
      generalize clAt l q = x at *
      generalize x 0 = x0 at *
      generalize x 1 = x1 at *
      generalize x 2 = x2 at *
      generalize x 3 = x3 at *
      go_wp2
      go_roundw
      case rel => exact ⟨n + 1, by omega, by go_num, HO.out, HG.out⟩
      case measure => simp [intOf]; omega
    · obtain rfl : n = l.length := by omega
      have hlz : ¬ (l.length : Int) < (l.length : Int) := by omega
      have hcl : ∀ W, Below wr.heap.size wr W → ∃ ad, A = some ad ∧ W.cell? ad = some (.int .u64 (clAt l 0 0)) ∧ W.cell? ⟨ad.block, ad.off + 1, none⟩ = some (.int .u64 (clAt l 0 1)) ∧ W.cell? ⟨ad.block, ad.off + 2, none⟩ = some (.int .u64 (clAt l 0 2)) ∧ W.cell? ⟨ad.block, ad.off + 3, none⟩ = some (.int .u64 (clAt l 0 3)) := fun W hW =>
        by
        have := ((hs0.below hb).below hW).at_ (j := 0) (by omega)
        exact this
      have happ : ∀ W, Below wr.heap.size wr W → ∃ g c w', (AppS #[35, 35] 35 #[u5, .slice (some ⟨W.heap.size, 0, none⟩) 2 2]).run Tryd.prog (W.alloc (.cells #[.int .u64 (notw (clAt l 0 0)), .int .u64 (notw (clAt l 0 1)), .int .u64 (notw (clAt l 0 2)), .int .u64 (notw (clAt l 0 3)), .int .u64 (clAt l 0 0), .int .u64 (clAt l 0 1), .int .u64 (clAt l 0 2), .int .u64 (clAt l 0 3)] 24)) = .ok (.slice (some ⟨g, 0, none⟩) (l.length + 2) c) w' ∧
          w'.ownsRow w0.heap.size 24 4 (.slice (some ⟨g, 0, none⟩) (l.length + 2) c) (twL l p).length (ccells (twL l p)) ∧ Below w0.heap.size w0 w' := fun W hW => by
        obtain ⟨g, c3, w3, hr, ho3, hg3⟩ := app_two W w0.heap.size u5 (rot l p l.length) (ow_below hown hW) (Nat.le_trans hb.size hW.size) (by rw [rot_len]; omega) (notC (clAt l 0)) (clAt l 0)
        rw [rot_len] at hr ho3
        exact ⟨g, c3, w3, hr, ho3, (ext_trans hb hW).grown hg3 (Nat.le_trans hb.size hW.size) (fun k e => by have := World.ownsRow.lt hown k e; omega)⟩
      have hlp : 0 < l.length := by omega
      have hN := fun W => not_v (clAt l 0 0) (clAt l 0 1) (clAt l 0 2) (clAt l 0 3) W
      obtain ⟨ad, rfl, a0, a1, a2, a3⟩ := hcl wr (Below.refl _ _)
      have hcl2 : ∀ W, Below wr.heap.size wr W → W.cell? ad = some (.int .u64 (clAt l 0 0)) ∧ W.cell? ⟨ad.block, ad.off + 1, none⟩ = some (.int .u64 (clAt l 0 1)) ∧ W.cell? ⟨ad.block, ad.off + 2, none⟩ = some (.int .u64 (clAt l 0 2)) ∧ W.cell? ⟨ad.block, ad.off + 3, none⟩ = some (.int .u64 (clAt l 0 3)) := fun W hW => by
        obtain ⟨ad', e, k⟩ := hcl W hW
        injection e with e
        subst e
        exact k
      have hbn : ∀ W, Below wr.drew.heap.size wr.drew W → Below wr.heap.size wr W := fun W h => ⟨h.os, h.tape, h.output, h.size, h.block⟩
      have HO := Lib.hid hown
      clear hcl hown
      generalize clAt l 0 = x at *
      generalize x 0 = x0 at *
      generalize x 1 = x1 at *
      generalize x 2 = x2 at *
      generalize x 3 = x3 at *
      go_wp2_with fail
      go_region_law (first
        | (go_simp; go_at_call 9; refine (hN _).mono ?_; rintro e w6 ⟨rfl, hb6⟩; have hb6' := hbn _ hb6; obtain ⟨k0, k1, k2, k3⟩ := hcl2 _ hb6'; obtain ⟨g, c3, w7, hr, ho7, hb7⟩ := happ _ hb6'))
      all_goals
        obtain ⟨m, hm⟩ : ∃ m, m = twL l p := ⟨_, rfl⟩
        rw [← hm] at ho7
        have hml : m.length = l.length + 2 := by rw [hm]; exact twL_len l p
        have hkeys := tw_keys HL.out hlp p
        have hmw := tw_w HL.out hlp p
        rw [← hm] at hkeys hmw
        obtain ⟨A', c', e1, hs7⟩ := own_cs ho7
        injection e1 with q1 q2 q3
        subst q1 q3
        have hall7 := (hb7.cell (World.block_lt_of_cell? w0 _ hall0)).trans hall0
        have hp1 := parts_any l HL.out (by omega) _ c w7 (hs0.below hb7) hall7
        have HK := Lib.hid hkeys
        have HMW := Lib.hid hmw
        have HML := Lib.hid hml
        have hbw7 := ext_trans hb0 hb7
        clear hm hml hkeys hmw ho7 hr k0 k1 k2 k3 hb6 hb6' happ hN hcl2 hbn a0 a1 a2 a3 HO hall0
        go_wp2_with fail
        refine hp1.mono ?_
        rintro e w8 ⟨v1, b1, rfl, hbs1, hS1, hb8⟩
        have hp2 := parts_any m HMW.out (by have := HML.out; omega) _ _ w8 (hs7.below hb8) ((hb8.cell (World.block_lt_of_cell? w7 _ hall7)).trans hall7)
        clear hp1 hall7
        go_wp2_with fail
        refine hp2.mono ?_
        rintro e w9 ⟨v2, b2, rfl, hbs2, hS2, hb9⟩
        clear hp2
        obtain ⟨xs, x1, x2, x3, x4⟩ := hS1.below hb9
        obtain ⟨ys, y1, y2, y3, y4⟩ := hS2
        obtain ⟨hlen, hsame⟩ := twice_same HK.out x1 x2 x3 y1 y2 y3
        obtain ⟨A1, d1, rfl, hs1⟩ := own_cs x4
        obtain ⟨A2, d2, rfl, hs2⟩ := own_cs y4
        have hbE := ext_trans (ext_trans hbw7 hb8) hb9
        have k1 := hs1.cap
        have k2 := hs1.max
        have k3 := hs2.cap
        have k4 := hs2.max
        have HS := Lib.hid hsame
        have HLen := Lib.hid hlen
        rw [← hlen]
        rw [← hlen] at k3
        clear x1 x2 x3 x4 y1 y2 y3 y4 hsame hlen
        go_wp2
        go_loopw [9] (fun i wr => ∃ k : Nat, k ≤ xs.length ∧ i = .int .i64 k ∧ Below w9.heap.size w9 wr) (fun i _ => xs.length - (intOf i).toNat)
        case atStart => exact ⟨0, by omega, rfl, Below.refl _ _⟩
        case round =>
          obtain ⟨k, hk, rfl, hb⟩ := hrel
          by_cases hlt : k < xs.length
          · have hlz : (k : Int) < (xs.length : Int) := by omega
            obtain ⟨ad, rfl, a0, a1, a2, a3⟩ := (hs1.below hb).at_ hlt
            obtain ⟨bd, rfl, b0, b1, b2, b3⟩ := (hs2.below hb).at_ (show k < ys.length by rw [← HLen.out]; exact hlt)
            rw [← HS.out k hlt 0 (by omega)] at b0
            rw [← HS.out k hlt 1 (by omega)] at b1
            rw [← HS.out k hlt 2 (by omega)] at b2
            rw [← HS.out k hlt 3 (by omega)] at b3
            generalize clAt xs k 0 = x0 at *
            generalize clAt xs k 1 = x1 at *
            generalize clAt xs k 2 = x2 at *
            generalize clAt xs k 3 = x3 at *
            have heq := eqC
            go_wp2
            go_quiet (fail)
            go_wp2
            go_roundw
            case rel => exact ⟨k + 1, by omega, by go_num, below_drewN9 hb _⟩
            case measure => simp [intOf]; omega
          · obtain rfl : k = xs.length := by omega
            have hlz : ¬ (xs.length : Int) < (xs.length : Int) := by omega
            go_wp2
            go_ret
            exact ⟨rfl, ext_trans hbE hb⟩
theorem wf_u8t {n : Int} (h : (Lit.int .u8 n).wf = true) : ∃ k : Nat, n = (k : Int) ∧ k ≤ 255 := by
  simp [Lit.wf, IntKind.min, IntKind.max, IntKind.signed, IntKind.bits] at h
  exact ⟨n.toNat, by omega, by omega⟩
end Go.Proofs.YthknfjiggdkcaaaDoor
