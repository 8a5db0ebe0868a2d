/- ClassParts: the walk. -/
import Derived.Test.YthknfjiggdkcaaaDoorPt8
import Derived.Laws.StructEq
namespace Go.Proofs.YthknfjiggdkcaaaDoor
open Go.RowKit Go.Maps
set_option linter.unusedVariables false
set_option linter.unusedSimpArgs false

theorem clAt_at (xs : List Cw) (j : Nat) (h : j < xs.length) : clAt xs j = xs[j] := by simp [clAt, List.getD, h]
/-- A row of classes of one's own is one that is read. -/
theorem own_cs {w : World} {base : Nat} {v : Value} {xs : List Cw} (h : w.ownsRow base 24 4 v xs.length (ccells xs)) : ∃ A c, v = .slice A xs.length c ∧ Cs w A c xs := by
  rcases h.2 with ⟨rfl, h0⟩ | ⟨g, cap, cur, rfl, _, _, h1, h2, _⟩
  · refine ⟨none, 0, by rw [h0], by omega, by omega, fun _ => rfl, fun ad e => by cases e⟩
  · refine ⟨_, cap, rfl, by omega, by unfold maxLen at h2; omega, fun e => (by cases e), fun ad e j hj => ?_⟩
    injection e with e
    subst e
    obtain ⟨⟨c0, c1, c2, c3⟩, _⟩ := own4 h hj
    have ha : (⟨g, 0, none⟩ : Addr).add (j * 4) = ⟨g, j * 4, none⟩ := by unfold Addr.add; split <;> simp_all
    rw [ha]
    exact ⟨c0, c1, c2, c3⟩
theorem below_drewN9 {B : Nat} {w W : World} (h : Below B w W) (n : Nat) : Below B w (W.drewN n) := ⟨h.os, h.tape, h.output, h.size, h.block⟩
theorem lists_same {l : List Cw} {xs ys : List Cw} (hx : xs.length = (firsts l 256).length) (hxw : AllW xs) (hxb : ∀ i, i < xs.length → ∀ q : Nat, q < 256 → hasB (clAt xs i) q = (decide (q < 256) && decide (idx l 256 q = i)))
    (hy : ys.length = (firsts l 256).length) (hyw : AllW ys) (hyb : ∀ i, i < (firsts l 256).length → ∀ b : Nat, b < 256 → hasB (clAt ys i) b = togB l ((firsts l 256).getD i 0) b) (i : Nat) (hi : i < xs.length) (j : Nat) (hj : j < 4) :
    clAt xs i j = clAt ys i j := by
  refine cls_ext (hxw i hi) (hyw i (by omega)) (fun q hq => ?_) j hj
  have hi2 : i < (firsts l 256).length := by omega
  rw [hxb i hi q hq, hyb i hi2 q hq, decide_eq_true hq, Bool.true_and, part_same i hi2 q hq]
  simp [List.getD, hi2]
set_option maxHeartbeats 4000000 in
theorem classParts_any (l : List Cw) (hl : AllW l) (A : Option Addr) (c : Nat) (w : World) (hs : Cs w A c l) (hall : w.cell? ⟨0, 0, none⟩ = some (.int .i64 256)) :
    Calls Tryd.prog 4 #[.slice A l.length c] w fun e w' => e = .returned (.bool true) ∧ Below w.heap.size w w' := by
  have hcap := hs.cap
  have hmax := hs.max
  have HL := Lib.hid hl
  clear hl
  go_enter Tryd.func4, Tryd.ntmps4
  go_wp2_with fail
  refine (awake_any _).mono ?_
  rintro e w0 ⟨rfl, hb0⟩
  by_cases hn : 40 < l.length
  · have hnz : (l.length : Int) > 40 := by omega
    go_wp2_with fail
    refine (awake_any _).mono ?_
    rintro e w1 ⟨rfl, hb1⟩
    go_wp2
    go_ret
    exact ⟨rfl, ext_trans hb0 hb1⟩
  · have hnz : ¬ (l.length : Int) > 40 := by omega
    have hp := parts_any l HL.out (by omega) A c w0 (hs.below hb0) ((hb0.cell (World.block_lt_of_cell? w _ hall)).trans hall)
    go_wp2_with fail
    refine hp.mono ?_
    rintro e w1 ⟨v1, b1, rfl, hbs, hS, hb1⟩
    have hbw := ext_trans hb0 hb1
    have hr := refParts_any l HL.out A c w1 (hs.below hbw)
    clear hp
    go_wp2_with fail
    refine hr.mono ?_
    rintro e w2 ⟨v2, rfl, hC, hb2⟩
    clear hr
    obtain ⟨xs, x1, x2, x3, x4⟩ := hS
    obtain ⟨ys, y1, y2, y3, y4⟩ := hC
    have hsame := lists_same x1 x2 x3 y1 y2 y3
    have hlen : xs.length = ys.length := by omega
    obtain ⟨A1, c1, rfl, hs1⟩ := own_cs x4
    obtain ⟨A2, c2, rfl, hs2⟩ := own_cs y4
    have hs1' := hs1.below hb2
    have hbE := ext_trans hbw hb2
    have k1 := hs1'.cap
    have k2 := hs1'.max
    have k3 := hs2.cap
    have k4 := hs2.max
    have HS := Lib.hid hsame
    have HLen := Lib.hid hlen
    rw [← hlen]
    rw [← hlen] at k3
    clear x1 x2 x3 x4 y1 y2 y3 y4 hsame hs1 hlen
    go_wp2
    go_loopw [5] (fun i wr => ∃ k : Nat, k ≤ xs.length ∧ i = .int .i64 k ∧ Below w2.heap.size w2 wr) (fun i _ => xs.length - (intOf i).toNat)
    case atStart => exact ⟨0, by omega, rfl, Below.refl _ _⟩
    case round =>
      obtain ⟨k, hk, rfl, hb⟩ := hrel
      by_cases hlt : k < xs.length
      · have hlz : (k : Int) < (xs.length : Int) := by omega
        obtain ⟨ad, rfl, a0, a1, a2, a3⟩ := (hs1'.below hb).at_ hlt
        obtain ⟨bd, rfl, b0, b1, b2, b3⟩ := (hs2.below hb).at_ (show k < ys.length by rw [← HLen.out]; exact hlt)
        rw [← HS.out k hlt 0 (by omega)] at b0
        rw [← HS.out k hlt 1 (by omega)] at b1
        rw [← HS.out k hlt 2 (by omega)] at b2
        rw [← HS.out k hlt 3 (by omega)] at b3
        generalize clAt xs k 0 = x0 at *
        generalize clAt xs k 1 = x1 at *
        generalize clAt xs k 2 = x2 at *
        generalize clAt xs k 3 = x3 at *
        have heq := eqC
        go_wp2
        go_quiet (fail)
        go_wp2
        go_roundw
        case rel => exact ⟨k + 1, by omega, by go_num, below_drewN9 hb _⟩
        case measure => simp [intOf]; omega
      · obtain rfl : k = xs.length := by omega
        have hlz : ¬ (xs.length : Int) < (xs.length : Int) := by omega
        go_wp2
        go_ret
        exact ⟨rfl, ext_trans hbE hb⟩
end Go.Proofs.YthknfjiggdkcaaaDoor
