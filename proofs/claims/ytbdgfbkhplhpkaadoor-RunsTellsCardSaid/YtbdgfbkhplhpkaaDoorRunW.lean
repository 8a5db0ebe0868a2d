/- Runs in memory; the walks of the functions that tell formed runs. -/
import Derived.Test.YtbdgfbkhplhpkaaDoorProg
import Derived.Test.YtbdgfbkhplhpkaaDoorK1
import Derived.WalkKit
import Derived.LoopTactic
import Derived.BigQuiet
import Derived.Deep.QuietTactic
import Derived.WalkSpells
import Derived.Outline
namespace Go.Proofs.YtbdgfbkhplhpkaaDoor
open Go.RowKit

abbrev Rn := UInt8 × Int
def rB (rs : List Rn) (i : Nat) : UInt8 := (rs.getD i (0, 0)).1
def rT (rs : List Rn) (i : Nat) : Int := (rs.getD i (0, 0)).2
/-- The slice of runs of address A. -/
structure Rs (w : World) (A : Option Addr) (c : Nat) (rs : List Rn) : Prop where
  cap : rs.length ≤ c
  max : c ≤ 9223372036854775807
  nil : A = none → c = 0
  cell : ∀ ad, A = some ad → ∀ j, j < rs.length → w.cell? (ad.add (j * 2)) = some (.int .u8 ((rB rs j).toNat : Int)) ∧ w.cell? ⟨(ad.add (j * 2)).block, (ad.add (j * 2)).off + 1, none⟩ = some (.int .i64 (rT rs j))
namespace Rs
variable {w w' : World} {A : Option Addr} {c : Nat} {rs : List Rn}
theorem none_ (w : World) : Rs w none 0 [] := ⟨Nat.le_refl _, by omega, fun _ => rfl, fun _ h => by cases h⟩
theorem below (h : Rs w A c rs) (hb : Below w.heap.size w w') : Rs w' A c rs :=
  ⟨h.cap, h.max, h.nil, fun ad e j hj => by
    have := h.cell ad e j hj
    exact ⟨(hb.cell (World.block_lt_of_cell? w _ this.1)).trans this.1, (hb.cell (World.block_lt_of_cell? w _ this.2)).trans this.2⟩⟩
theorem alloc (h : Rs w A c rs) (o : Obj) : Rs (w.alloc o) A c rs := h.below ((Below.refl _ w).alloc (Nat.le_refl _) o)
theorem at_ (h : Rs w A c rs) {k : Nat} (hk : k < rs.length) : ∃ ad, A = some ad ∧ w.cell? (ad.add (k * 2)) = some (.int .u8 ((rB rs k).toNat : Int)) ∧ w.cell? ⟨(ad.add (k * 2)).block, (ad.add (k * 2)).off + 1, none⟩ = some (.int .i64 (rT rs k)) := by
  cases A with
  | none => have := h.nil rfl; have := h.cap; omega
  | some ad => exact ⟨ad, rfl, h.cell ad rfl k hk⟩
theorem set (h : Rs w A c rs) {p : Addr} (hne : ∀ ad, A = some ad → rs ≠ [] → ad.block ≠ p.block) (u : Value) : Rs (w.setCell p u) A c rs :=
  ⟨h.cap, h.max, h.nil, fun ad e j hj => by
    have hx : rs ≠ [] := by
      rintro rfl
      simp at hj
    have hc := h.cell ad e j hj
    have hb := hne ad e hx
    exact ⟨(World.cell?_of_block (w := w) (Below.heap_setCell w p u _ (by rw [addr_block]; exact hb))).trans hc.1, (World.cell?_of_block (w := w) (Below.heap_setCell w p u _ (by show (ad.add (j * 2)).block ≠ p.block; rw [addr_block]; exact hb))).trans hc.2⟩⟩
end Rs

/-- How many bytes the first k runs have. -/
def sumT (rs : List Rn) : Nat → Int
  | 0 => 0
  | k + 1 => sumT rs k + rT rs k
def Good (rs : List Rn) (i : Nat) : Prop := 1 ≤ rT rs i ∧ rT rs i ≤ 4611686018427387904 - sumT rs i ∧ (0 < i → rB rs (i - 1) ≠ rB rs i)
def RunsF (rs : List Rn) : Prop := (∀ i, i < rs.length → Good rs i) ∧ rs.length ≤ 200
theorem sumT_bound {rs : List Rn} {k : Nat} (h : ∀ i, i < k → Good rs i) : 0 ≤ sumT rs k ∧ sumT rs k ≤ 4611686018427387904 := by
  induction k with
  | zero => simp [sumT]
  | succ k ih =>
    have h1 := ih fun i hi => h i (by omega)
    have h2 := h k (by omega)
    simp only [sumT]
    unfold Good at h2
    omega
theorem good_step {rs : List Rn} {k : Nat} (h : ∀ i, i < k → Good rs i) (hk : Good rs k) : ∀ i, i < k + 1 → Good rs i := fun i hi => by
  by_cases e : i = k
  · subst e; exact hk
  · exact h i (by omega)
open Classical in
noncomputable def runsOk (rs : List Rn) : Bool := decide (RunsF rs)
open Classical in
noncomputable def runsSum (rs : List Rn) : Int := if RunsF rs then sumT rs rs.length else 0
open Classical in
theorem runsOk_no {rs : List Rn} (h : ¬ RunsF rs) : runsOk rs = false := decide_eq_false h
open Classical in
theorem runsOk_yes {rs : List Rn} (h : RunsF rs) : runsOk rs = true := decide_eq_true h
open Classical in
theorem runsOk_of {rs : List Rn} (h : runsOk rs = true) : RunsF rs := of_decide_eq_true h
open Classical in
theorem runsSum_no {rs : List Rn} (h : ¬ RunsF rs) : runsSum rs = 0 := if_neg h
open Classical in
theorem runsSum_yes {rs : List Rn} (h : RunsF rs) : runsSum rs = sumT rs rs.length := if_pos h
def I64 (x : Int) : Prop := -9223372036854775808 ≤ x ∧ x ≤ 9223372036854775807

theorem below_drewN {B : Nat} {a w : World} (h : Below B a w) (n : Nat) : Below B a (w.drewN n) := ⟨h.os, h.tape, h.output, h.size, h.block⟩

set_option maxHeartbeats 400000 in
theorem formedR_any (rs : List Rn) (hT : ∀ i, I64 (rT rs i)) (A : Option Addr) (c : Nat) (w : World) (hs : Rs w A c rs) :
    Calls Tryd.prog 13 #[.slice A rs.length c] w fun e w' => e = .returned (.bool (runsOk rs)) ∧ Below w.heap.size w w' := by
  have hcap := hs.cap
  have hmax := hs.max
  go_enter Tryd.func13, Tryd.ntmps13
  go_wp2
  go_loopw [3, 8] (fun v i wr => ∃ k : Nat, k ≤ rs.length ∧ i = .int .i64 k ∧ v = .int .i64 (4611686018427387904 - sumT rs k) ∧ Hid (∀ i, i < k → Good rs i) ∧ Below w.heap.size w wr) (fun v i _ => rs.length - (intOf i).toNat)
  case atStart => exact ⟨0, Nat.zero_le _, rfl, rfl, fun i hi => by omega, Below.refl _ _⟩
  case round =>
    obtain ⟨k, hk, rfl, rfl, hg, hb⟩ := hrel
    by_cases hlt : k < rs.length
    · obtain ⟨ad, rfl, hc0, hc1⟩ := (hs.below hb).at_ hlt
      have hTk := hT k
      unfold I64 at hTk
      have hsum := sumT_bound hg.out
      have hno : ¬ Good rs k → ¬ RunsF rs := fun h h' => h (h'.1 k hlt)
      have hbb := hb.alloc hb.size (.cells #[.int .u8 ((rB rs k).toNat : Int), .int .i64 (rT rs k)] 31)
      obtain ⟨L, hL⟩ : ∃ L, L = 4611686018427387904 - sumT rs k := ⟨_, rfl⟩
      obtain ⟨T, hT'⟩ : ∃ T, T = rT rs k := ⟨_, rfl⟩
      rw [← hL]
      rw [← hT'] at hc1 hbb hTk
      have hLb : 0 ≤ L ∧ L ≤ 4611686018427387904 := by omega
      have HL := Lib.hid hL
      have HT := Lib.hid hT'
      clear hL hT' hsum hT
      cases d1 : decide (T < 1) with
      | true =>
        go_wp2
        go_quiet (fail)
        go_wp2
        go_ret
        have := of_decide_eq_true d1
        exact ⟨by rw [runsOk_no (hno fun h => by unfold Good at h; have := HT.out; omega)]; rfl, below_drewN hbb _⟩
      | false =>
        cases d2 : decide (L < T) with
        | true =>
          go_wp2
          go_quiet (fail)
          go_wp2
          go_ret
          have := of_decide_eq_true d2
          exact ⟨by rw [runsOk_no (hno fun h => by unfold Good at h; have := HT.out; have := HL.out; omega)]; rfl, below_drewN hbb _⟩
        | false =>
          have hT1 := of_decide_eq_false d1
          have hT2 := of_decide_eq_false d2
          by_cases h3 : 0 < k
          · obtain ⟨j, rfl⟩ : ∃ j, k = j + 1 := ⟨k - 1, by omega⟩
            obtain ⟨hp0, hp1⟩ := ((hs.below hb).alloc (.cells #[.int .u8 ((rB rs (j + 1)).toNat : Int), .int .i64 T] 31)).cell ad rfl j (by omega)
            clear hp1
            have hjl : j < rs.length := by omega
            have hwj : IntKind.i64.wrap (j : Int) = j := by rw [IntKind.wrap_i64]; omega
            obtain ⟨b0, hb0⟩ : ∃ b, b = ((rB rs j).toNat : Int) := ⟨_, rfl⟩
            obtain ⟨b1, hb1⟩ : ∃ b, b = ((rB rs (j + 1)).toNat : Int) := ⟨_, rfl⟩
            rw [← hb0] at hp0
            rw [← hb1] at hc0 hbb hp0
            have HB0 := Lib.hid hb0
            have HB1 := Lib.hid hb1
            clear hb0 hb1
            cases d4 : (b0 == b1) with
            | true =>
              go_wp2
              go_quiet (fail)
              go_wp2
              go_ret
              have e := eq_of_beq d4
              rw [HB0.out, HB1.out] at e
              have hng : ¬ Good rs (j + 1) := fun h => by
                have h5 := h.2.2 h3
                rw [Nat.add_sub_cancel] at h5
                exact h5 (UInt8.toNat_inj.1 (by omega))
              exact ⟨by rw [runsOk_no (hno hng)]; rfl, below_drewN hbb _⟩
            | false =>
              go_wp2
              go_quiet (fail)
              go_wp2
              go_roundw
              case rel =>
                have e : ¬ b0 = b1 := fun h => by rw [h, beq_self_eq_true] at d4; cases d4
                rw [HB0.out, HB1.out] at e
                have hG : Good rs (j + 1) := ⟨by have := HT.out; omega, by have := HT.out; have := HL.out; omega, fun _ he => e (by rw [Nat.add_sub_cancel] at he; rw [he])⟩
                exact ⟨j + 1 + 1, by omega, by go_num, by rw [show sumT rs (j + 1 + 1) = sumT rs (j + 1) + rT rs (j + 1) from rfl, HL.out, HT.out]; congr 1; omega, good_step hg.out hG, below_drewN hbb _⟩
              case measure => simp [intOf]; omega
          · obtain rfl : k = 0 := by omega
            have hc0' : wr.cell? ad = some (.int .u8 ((rB rs 0).toNat : Int)) := hc0
            have hc1' : wr.cell? ⟨ad.block, ad.off + 1, none⟩ = some (.int .i64 T) := hc1
            clear hc0 hc1
            go_wp2
            go_quiet (fail)
            go_wp2
            go_roundw
            case rel =>
              have hG : Good rs 0 := ⟨by have := HT.out; omega, by have := HT.out; have := HL.out; omega, fun h => absurd h (by omega)⟩
              exact ⟨1, by omega, by go_num, by simp only [sumT] at HL ⊢; rw [HL.out, HT.out]; congr 1; omega, good_step hg.out hG, below_drewN hbb _⟩
            case measure => simp [intOf]; omega
    · have hkn : k = rs.length := by omega
      subst hkn
      go_wp2
      go_ret
      refine ⟨?_, hb⟩
      have e : runsOk rs = decide (rs.length ≤ 200) := by
        by_cases h : rs.length ≤ 200
        · rw [runsOk_yes ⟨hg.out, h⟩, decide_eq_true h]
        · rw [runsOk_no fun h' => h h'.2, decide_eq_false h]
      rw [e]
      show Ending.returned (.bool (decide ((rs.length : Int) ≤ 200))) = _
      congr 2
      exact decide_eq_decide.2 (by omega)

set_option maxHeartbeats 1000000 in
theorem formedF_any (rs : List Rn) (hT : ∀ i, I64 (rT rs i)) (A : Option Addr) (c : Nat) (w : World) (hs : Rs w A c rs) :
    Calls Tryd.prog 7 #[.slice A rs.length c] w fun e w' => e = .returned (.tuple #[.int .i64 (runsSum rs), .bool (runsOk rs)]) ∧ Below w.heap.size w w' := by
  have hcap := hs.cap
  have hmax := hs.max
  go_enter Tryd.func7, Tryd.ntmps7
  go_wp2
  go_loopw [4, 5] (fun v i wr => ∃ k : Nat, k ≤ rs.length ∧ i = .int .i64 k ∧ v = .int .i64 (sumT rs k) ∧ Hid (∀ i, i < k → Good rs i) ∧ Below w.heap.size w wr) (fun v i _ => rs.length - (intOf i).toNat)
  case atStart => exact ⟨0, Nat.zero_le _, rfl, rfl, fun i hi => by omega, Below.refl _ _⟩
  case round =>
    obtain ⟨k, hk, rfl, rfl, hg, hb⟩ := hrel
    by_cases hlt : k < rs.length
    · obtain ⟨ad, rfl, hc0, hc1⟩ := (hs.below hb).at_ hlt
      have hTk := hT k
      unfold I64 at hTk
      have hsum := sumT_bound hg.out
      have hno : ¬ Good rs k → ¬ RunsF rs := fun h h' => h (h'.1 k hlt)
      obtain ⟨S, hS⟩ : ∃ S, S = sumT rs k := ⟨_, rfl⟩
      obtain ⟨T, hT'⟩ : ∃ T, T = rT rs k := ⟨_, rfl⟩
      rw [← hS] at hsum ⊢
      rw [← hT'] at hc1 hTk
      have hwS : IntKind.i64.wrap (4611686018427387904 - S) = 4611686018427387904 - S := by rw [IntKind.wrap_i64]; omega
      have HS := Lib.hid hS
      have HT := Lib.hid hT'
      clear hS hT' hT
      cases d1 : decide (T < 1) with
      | true =>
        go_wp2
        go_quiet (fail)
        go_wp2
        go_ret2
        have := of_decide_eq_true d1
        have hn : ¬ RunsF rs := hno fun h => by unfold Good at h; have := HT.out; omega
        exact ⟨by rw [runsOk_no hn, runsSum_no hn]; rfl, below_drewN hb _⟩
      | false =>
        cases d2 : decide (4611686018427387904 - S < T) with
        | true =>
          go_wp2
          go_quiet (fail)
          go_wp2
          go_ret2
          have := of_decide_eq_true d2
          have hn : ¬ RunsF rs := hno fun h => by unfold Good at h; have := HT.out; have := HS.out; omega
          exact ⟨by rw [runsOk_no hn, runsSum_no hn]; rfl, below_drewN hb _⟩
        | false =>
          have hT1 := of_decide_eq_false d1
          have hT2 := of_decide_eq_false d2
          by_cases h3 : 0 < k
          · obtain ⟨j, rfl⟩ : ∃ j, k = j + 1 := ⟨k - 1, by omega⟩
            obtain ⟨hp0, hp1⟩ := (hs.below hb).cell ad rfl j (by omega)
            clear hp1
            have hjl : j < rs.length := by omega
            have hwj : IntKind.i64.wrap (j : Int) = j := by rw [IntKind.wrap_i64]; omega
            obtain ⟨b0, hb0⟩ : ∃ b, b = ((rB rs j).toNat : Int) := ⟨_, rfl⟩
            obtain ⟨b1, hb1⟩ : ∃ b, b = ((rB rs (j + 1)).toNat : Int) := ⟨_, rfl⟩
            rw [← hb0] at hp0
            rw [← hb1] at hc0
            have HB0 := Lib.hid hb0
            have HB1 := Lib.hid hb1
            clear hb0 hb1
            cases d4 : (b1 == b0) with
            | true =>
              go_wp2
              go_quiet (fail)
              go_wp2
              go_ret2
              have e := eq_of_beq d4
              rw [HB0.out, HB1.out] at e
              have hng : ¬ Good rs (j + 1) := fun h => by
                have h5 := h.2.2 h3
                rw [Nat.add_sub_cancel] at h5
                exact h5 (UInt8.toNat_inj.1 (by omega))
              exact ⟨by rw [runsOk_no (hno hng), runsSum_no (hno hng)]; rfl, below_drewN hb _⟩
            | false =>
              go_wp2
              go_quiet (fail)
              go_wp2
              go_roundw
              case rel =>
                have e : ¬ b1 = b0 := fun h => by rw [h, beq_self_eq_true] at d4; cases d4
                rw [HB0.out, HB1.out] at e
                have hG : Good rs (j + 1) := ⟨by have := HT.out; omega, by have := HT.out; have := HS.out; omega, fun _ he => e (by rw [Nat.add_sub_cancel] at he; rw [he])⟩
                exact ⟨j + 1 + 1, by omega, by go_num, by rw [show sumT rs (j + 1 + 1) = sumT rs (j + 1) + rT rs (j + 1) from rfl, HS.out, HT.out], good_step hg.out hG, below_drewN hb _⟩
              case measure => simp [intOf]; omega
          · obtain rfl : k = 0 := by omega
            have hc0' : wr.cell? ad = some (.int .u8 ((rB rs 0).toNat : Int)) := hc0
            have hc1' : wr.cell? ⟨ad.block, ad.off + 1, none⟩ = some (.int .i64 T) := hc1
            clear hc0 hc1
            go_wp2
            go_quiet (fail)
            go_wp2
            go_roundw
            case rel =>
              have hG : Good rs 0 := ⟨by have := HT.out; omega, by have := HT.out; have := HS.out; omega, fun h => absurd h (by omega)⟩
              exact ⟨1, by omega, by go_num, by rw [show sumT rs 1 = sumT rs 0 + rT rs 0 from rfl, HS.out, HT.out], good_step hg.out hG, below_drewN hb _⟩
            case measure => simp [intOf]; omega
    · have hkn : k = rs.length := by omega
      subst hkn
      by_cases h200 : 200 < rs.length
      · go_wp2
        go_ret2
        have hn : ¬ RunsF rs := fun h => by have := h.2; omega
        exact ⟨by rw [runsOk_no hn, runsSum_no hn]; rfl, hb⟩
      · go_wp2
        go_ret2
        have hn : RunsF rs := ⟨hg.out, by omega⟩
        exact ⟨by rw [runsOk_yes hn, runsSum_yes hn]; rfl, hb⟩
end Go.Proofs.YtbdgfbkhplhpkaaDoor
