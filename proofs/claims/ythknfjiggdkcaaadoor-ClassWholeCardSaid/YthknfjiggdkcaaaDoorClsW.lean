/- The walks of the functions on classes of bytes. -/
import Derived.Test.YthknfjiggdkcaaaDoorProg
import Derived.Test.YthknfjiggdkcaaaDoorCls0
import Derived.Test.YthknfjiggdkcaaaDoorK0
import Derived.Test.YthknfjiggdkcaaaDoorPop
import Derived.WalkKit
import Derived.LoopTactic
import Derived.Deep.OwnRows
import Derived.Lib.Hide
import Derived.BigQuiet
import Derived.Deep.QuietTactic
import Derived.Outline
namespace Go.Proofs.YthknfjiggdkcaaaDoor
open Go.RowKit

theorem szW (w : World) : (sizeOf 22).run Tryd.prog w = .ok 1 w := by kernel_rfl
theorem part_one (a : Int) (xs : Array Value) (i : Nat) (w : World) (h : xs[i]? = some (.int .u64 a)) : (part 22 xs i).run Tryd.prog w = .ok (.int .u64 a) w := by
  simp [part, go_sem, h]
theorem part4_0 (a0 a1 a2 a3 : Int) (w : World) : (part 22 #[.int .u64 a0, .int .u64 a1, .int .u64 a2, .int .u64 a3] 0).run Tryd.prog w = .ok (.int .u64 a0) w := part_one _ _ _ _ rfl
theorem part4_1 (a0 a1 a2 a3 : Int) (w : World) : (part 22 #[.int .u64 a0, .int .u64 a1, .int .u64 a2, .int .u64 a3] 1).run Tryd.prog w = .ok (.int .u64 a1) w := part_one _ _ _ _ rfl
theorem part4_2 (a0 a1 a2 a3 : Int) (w : World) : (part 22 #[.int .u64 a0, .int .u64 a1, .int .u64 a2, .int .u64 a3] 2).run Tryd.prog w = .ok (.int .u64 a2) w := part_one _ _ _ _ rfl
theorem part4_3 (a0 a1 a2 a3 : Int) (w : World) : (part 22 #[.int .u64 a0, .int .u64 a1, .int .u64 a2, .int .u64 a3] 3).run Tryd.prog w = .ok (.int .u64 a3) w := part_one _ _ _ _ rfl
theorem eq4 (d : Nat) (w : World) (a0 a1 a2 a3 b0 b1 b2 b3 : Int) : (Op.equalIn (d + 2) 24 (.agg #[.int .u64 a0, .int .u64 a1, .int .u64 a2, .int .u64 a3]) (.agg #[.int .u64 b0, .int .u64 b1, .int .u64 b2, .int .u64 b3])).run Tryd.prog w = .ok (a0 == b0 && (a1 == b1 && (a2 == b2 && a3 == b3))) w := by
  have he := fun (w : World) (a b : Int) => run_equalIn_int (P := Tryd.prog) w d 22 .u64 .u64 a b Tryd.underlying22
  rw [show d + 2 = (d + 1) + 1 from rfl]
  unfold Op.equalIn
  simp only [Sem.run_bind, run_underlying Tryd.underlying24, Result.andThen_ok, szW]
  simp
  rw [show List.range' 0 4 = [0, 1, 2, 3] from rfl]
  cases e0 : a0 == b0 <;> cases e1 : a1 == b1 <;> cases e2 : a2 == b2 <;> cases e3 : a3 == b3 <;>
    simp only [List.forIn_cons, List.forIn_nil, Sem.run_bind, part4_0, part4_1, part4_2, part4_3, he, Result.andThen_ok, e0, e1, e2, e3, Bool.false_eq_true, if_true, if_false, Sem.run_pure, reduceCtorEq, Bool.and_true, Bool.and_false, Bool.false_and]
theorem eqC (w : World) (a0 a1 a2 a3 b0 b1 b2 b3 : Int) : (Op.equalIn 10000 24 (.agg #[.int .u64 a0, .int .u64 a1, .int .u64 a2, .int .u64 a3]) (.agg #[.int .u64 b0, .int .u64 b1, .int .u64 b2, .int .u64 b3])).run Tryd.prog w = .ok (a0 == b0 && (a1 == b1 && (a2 == b2 && a3 == b3))) w :=
  eq4 9998 w a0 a1 a2 a3 b0 b1 b2 b3

/-- The value of a class. -/
def RetC (Q : (Nat → Int) → Prop) (w : World) (e : Ending) (w' : World) : Prop :=
  ∃ x : Nat → Int, e = .returned (.agg #[.int .u64 (x 0), .int .u64 (x 1), .int .u64 (x 2), .int .u64 (x 3)]) ∧ W64 x ∧ Q x ∧ Below w.heap.size w w'

theorem has_any (x : Nat → Int) (hx : W64 x) (b : Int) (h0 : 0 ≤ b) (h1 : b < 256) (w : World) :
    Calls Tryd.prog 11 #[.agg #[.int .u64 (x 0), .int .u64 (x 1), .int .u64 (x 2), .int .u64 (x 3)], .int .u8 b] w fun e w' => e = .returned (.bool (hasB x b.toNat)) ∧ Below w.heap.size w w' := by
  have hc := four_get (fun j => .int .u64 (x j)) (b / 64).toNat (by omega)
  go_enter Tryd.func11, Tryd.ntmps11
  go_wp2
  go_ret
  refine ⟨?_, (Below.refl _ _).alloc (Nat.le_refl _) _⟩
  have hj := hx (b / 64).toNat (by omega)
  have e := bit_spelt hj.1 hj.2 (b % 64).toNat
  simp only [hasB]
  rw [show b.toNat / 64 = (b / 64).toNat by omega, show b.toNat % 64 = (b % 64).toNat by omega, ← e]
  rfl

theorem has_empty (b : Nat) : hasB (fun _ => 0) b = false := by simp [hasB]
theorem w64_zero : W64 (fun _ => 0) := fun _ _ => ⟨Int.le_refl _, by show (0 : Int) < U64; unfold U64; decide⟩

set_option maxHeartbeats 400000 in
theorem of_any (l : List Int) (A : Option Addr) (c : Nat) (w : World) (hr : RdI w .u8 A l) (hl : Byt l) :
    Calls Tryd.prog 20 #[.slice A l.length c] w (RetC (fun x => ∀ b, b < 256 → hasB x b = memB l b) w) := by
  have hlen := hr.1
  go_enter Tryd.func20, Tryd.ntmps20
  go_wp2
  go_loopw [8] (fun i wr => ∃ (k : Nat) (x : Nat → Int), k ≤ l.length ∧ i = .int .i64 k ∧ W64 x ∧ Hid (∀ b, b < 256 → hasB x b = decide ((b : Int) ∈ l.take k)) ∧
      wr.rowIs (w.heap.size + 1) 24 4 (fun j => .int .u64 (x j)) ∧ wr.rowIs w.heap.size 24 4 (fun _ => .int .u64 0) ∧ Below w.heap.size w wr) (fun i _ => l.length - (intOf i).toNat)
  case atStart => 
    refine ⟨0, fun _ => 0, Nat.zero_le _, rfl, w64_zero, fun b _ => by rw [has_empty]; simp, ?_, ?_, ?_⟩
    · exact row4_new1 w _ (fun _ => .int .u64 0) _
    · exact (row4_new w (fun _ => .int .u64 0) _).alloc _
    · exact ((Below.refl _ _).alloc (Nat.le_refl _) _).alloc (by simp) _
  case round =>
    obtain ⟨k, x, hk, rfl, hx, hh, hrow, hres, hb⟩ := hrel
    by_cases hlt : k < l.length
    · obtain ⟨ad, rfl, hc⟩ := hr.2 (by omega)
      have hb0 := hl.at_ hlt
      have hck := (hb.cell (World.block_lt_of_cell? w _ (hc k hlt))).trans (hc k hlt)
      clear hc
      obtain ⟨b, hbe⟩ : ∃ b, b = l.getD k 0 := ⟨_, rfl⟩
      rw [← hbe] at hb0 hck
      obtain ⟨hb1, hb2⟩ := hb0
      have Hbe := Lib.hid hbe
      clear hbe
      have hcc := hrow.cell (i := (b / 64).toNat) (by omega)
      have hfz := hrow.frozen (b / 64).toNat
      go_wp2
      have ⟨hw, hs⟩ := or_step hx hb1 hb2
      go_roundw
      case rel =>
        refine ⟨k + 1, setW x _ _, by omega, by go_num, hw, ?_, (hrow.set _ _).congr fun i _ => ?_, hres.setOther (by simp) _, hb.setCell (by simp) _⟩
        · intro q hq
          rw [hs q hq, hh.out q hq]
          have := mem_take_succ hlt (q : Int)
          rw [← Hbe.out] at this
          simp only [this, Bool.decide_or]
        · unfold setW; split <;> rfl
      case measure => simp [intOf]; omega
    · obtain ⟨c0, c1, c2, c3, _⟩ := row4 hrow
      obtain ⟨r0, r1, r2, r3, f0, f1, f2, f3⟩ := row4 hres
      go_wp2
      refine post_row4 (t := 2) (T := 24) (b := w.heap.size) (f := fun j => .int .u64 (x j)) Tryd.results20 rfl (row4_set hres (fun j => .int .u64 (x j))) Tryd.underlying24 (by kernel_rfl) rfl ?_
      refine ⟨x, rfl, hx, ?_, below_set4 hb (Nat.le_refl _) (fun j => .int .u64 (x j))⟩
      have := hh.out
      rw [List.take_of_length_le (by omega)] at this
      exact this

set_option maxHeartbeats 400000 in
theorem range_any (lo hi : Int) (h1 : 0 ≤ lo) (h2 : lo < 256) (h3 : 0 ≤ hi) (h4 : hi < 256) (w : World) :
    Calls Tryd.prog 19 #[.int .u8 lo, .int .u8 hi] w (RetC (fun x => ∀ b : Nat, b < 256 → hasB x b = inR lo hi b) w) := by
  go_enter Tryd.func19, Tryd.ntmps19
  go_wp2
  go_loopw [6] (fun i wr => ∃ (k : Nat) (x : Nat → Int), lo ≤ k ∧ (k : Int) ≤ hi + 1 + lo ∧ i = .int .i64 k ∧ W64 x ∧ Hid (∀ b : Nat, b < 256 → hasB x b = decide (lo ≤ b ∧ (b : Int) < k)) ∧ ((k : Int) ≤ hi + 1 ∨ (k : Int) = lo) ∧
      wr.rowIs (w.heap.size + 1) 24 4 (fun j => .int .u64 (x j)) ∧ wr.rowIs w.heap.size 24 4 (fun _ => .int .u64 0) ∧ Below w.heap.size w wr) (fun i _ => 256 - (intOf i).toNat)
  case atStart =>
    refine ⟨lo.toNat, fun _ => 0, by omega, by omega, by rw [Int.toNat_of_nonneg h1], w64_zero, fun b _ => ?_, by omega, ?_, ?_, ?_⟩
    · rw [has_empty, eq_comm, decide_eq_false_iff_not]; omega
    · exact row4_new1 w _ (fun _ => .int .u64 0) _
    · exact (row4_new w (fun _ => .int .u64 0) _).alloc _
    · exact ((Below.refl _ _).alloc (Nat.le_refl _) _).alloc (by simp) _
  case round =>
    obtain ⟨k, x, hk1, hk2, rfl, hx, hh, hor, hrow, hres, hb⟩ := hrel
    by_cases hlt : (k : Int) ≤ hi
    · have hcc := hrow.cell (i := ((k : Int) / 64).toNat) (by omega)
      have hfz := hrow.frozen ((k : Int) / 64).toNat
      have hand := and63 (k := k) (by omega) (by omega)
      have hq0 : 0 ≤ (k : Int) / 64 := by omega
      have hq4 : (k : Int) / 64 < 4 := by omega
      have hm0 : 0 ≤ (k : Int) % 64 := by omega
      clear hor
      go_wp2
      go_region
      go_wp2
      have ⟨hw, hs⟩ := or_step hx (b := k) (by omega) (by omega)
      go_roundw
      case rel =>
        refine ⟨k + 1, setW x _ _, by omega, by omega, by go_num, hw, ?_, by omega, ((hrow.set _ _).congr fun i _ => ?_).drew, (hres.setOther (by simp) _).drew, (hb.setCell (by simp) _).drew⟩
        · intro q hq
          rw [hs q hq, hh.out q hq, ← Bool.decide_or]
          apply decide_eq_decide.2
          omega
        · simp only [setW, show ((k : Int) / 64).toNat = k / 64 by omega, show ((k : Int) % 64).toNat = k % 64 by omega]
          split <;> rfl
      case measure => simp [intOf]; omega
    · obtain ⟨c0, c1, c2, c3, _⟩ := row4 hrow
      obtain ⟨r0, r1, r2, r3, f0, f1, f2, f3⟩ := row4 hres
      go_wp2
      refine post_row4 (t := 4) (T := 24) (b := w.heap.size) (f := fun j => .int .u64 (x j)) Tryd.results19 rfl (row4_set hres (fun j => .int .u64 (x j))) Tryd.underlying24 (by kernel_rfl) rfl ?_
      refine ⟨x, rfl, hx, ?_, below_set4 hb (Nat.le_refl _) (fun j => .int .u64 (x j))⟩
      intro q hq
      rw [hh.out q hq]
      unfold inR
      apply decide_eq_decide.2
      omega

theorem not_any (x : Nat → Int) (w : World) :
    Calls Tryd.prog 9 #[.agg #[.int .u64 (x 0), .int .u64 (x 1), .int .u64 (x 2), .int .u64 (x 3)]] w fun e w' => e = .returned (.agg #[.int .u64 (notw (x 0)), .int .u64 (notw (x 1)), .int .u64 (notw (x 2)), .int .u64 (notw (x 3))]) ∧ Below w.heap.size w w' := by
  go_enter Tryd.func9, Tryd.ntmps9
  go_wp2
  go_loopw [4] (fun i wr => ∃ k : Nat, k ≤ 4 ∧ i = .int .i64 k ∧
      wr.rowIs w.heap.size 24 4 (fun j => if j < k then .int .u64 (notw (x j)) else .int .u64 (x j)) ∧ wr.rowIs (w.heap.size + 1) 24 4 (fun _ => .int .u64 0) ∧ Below w.heap.size w wr) (fun i _ => 4 - (intOf i).toNat)
  case atStart =>
    refine ⟨0, by omega, rfl, ?_, ?_, ?_⟩
    · exact (row4_new w (fun j => .int .u64 (x j)) _).alloc _
    · exact row4_new1 w _ (fun _ => .int .u64 0) _
    · exact ((Below.refl _ _).alloc (Nat.le_refl _) _).alloc (by simp) _
  case round =>
    obtain ⟨k, hk, rfl, hrow, hres, hb⟩ := hrel
    by_cases hlt : k < 4
    · have hcc := row_at hrow hlt
      have hfz := hrow.frozen k
      go_wp2
      go_roundw
      case rel => exact ⟨k + 1, by omega, by go_num, row_step hrow (by rw [notw_eq]), hres.setOther (by simp) _, hb.setCell (Nat.le_refl _) _⟩
      case measure => simp [intOf]; omega
    · have hrow' := row_all hrow (by omega)
      clear hrow
      obtain ⟨c0, c1, c2, c3, _⟩ := row4 hrow'
      obtain ⟨r0, r1, r2, r3, f0, f1, f2, f3⟩ := row4 hres
      go_wp2
      refine post_row4 (t := 2) (T := 24) (b := w.heap.size + 1) (f := fun j => .int .u64 (notw (x j))) Tryd.results9 rfl (row4_set hres (fun j => .int .u64 (notw (x j)))) Tryd.underlying24 (by kernel_rfl) rfl ?_
      exact ⟨rfl, below_set4 hb (Nat.le_succ _) (fun j => .int .u64 (notw (x j)))⟩

set_option maxHeartbeats 400000 in
theorem and_any (x y : Nat → Int) (w : World) :
    Calls Tryd.prog 7 #[.agg #[.int .u64 (x 0), .int .u64 (x 1), .int .u64 (x 2), .int .u64 (x 3)], .agg #[.int .u64 (y 0), .int .u64 (y 1), .int .u64 (y 2), .int .u64 (y 3)]] w fun e w' => e = .returned (.agg #[.int .u64 (andw (x 0) (y 0)), .int .u64 (andw (x 1) (y 1)), .int .u64 (andw (x 2) (y 2)), .int .u64 (andw (x 3) (y 3))]) ∧ Below w.heap.size w w' := by
  go_enter Tryd.func7, Tryd.ntmps7
  go_wp2
  go_loopw [6] (fun i wr => ∃ k : Nat, k ≤ 4 ∧ i = .int .i64 k ∧
      wr.rowIs w.heap.size 24 4 (fun j => if j < k then .int .u64 (andw (x j) (y j)) else .int .u64 (x j)) ∧ wr.rowIs (w.heap.size + 1) 24 4 (fun j => .int .u64 (y j)) ∧
      wr.rowIs (w.heap.size + 1 + 1) 24 4 (fun _ => .int .u64 0) ∧ Below w.heap.size w wr) (fun i _ => 4 - (intOf i).toNat)
  case atStart =>
    refine ⟨0, by omega, rfl, ?_, ?_, ?_, ?_⟩
    · exact ((row4_new w (fun j => .int .u64 (x j)) _).alloc _).alloc _
    · exact (row4_new1 w _ (fun j => .int .u64 (y j)) _).alloc _
    · have := row4_new1 (w.alloc (.cells #[.int .u64 (x 0), .int .u64 (x 1), .int .u64 (x 2), .int .u64 (x 3)] 24)) (.cells #[.int .u64 (y 0), .int .u64 (y 1), .int .u64 (y 2), .int .u64 (y 3)] 24) (fun _ => .int .u64 0) 24
      rwa [size_alloc] at this
    · exact (((Below.refl _ _).alloc (Nat.le_refl _) _).alloc (by simp) _).alloc (by simp; omega) _
  case round =>
    obtain ⟨k, hk, rfl, hrow, hrow2, hres, hb⟩ := hrel
    by_cases hlt : k < 4
    · have hcc := row_at hrow hlt
      have hfz := hrow.frozen k
      have hcd := hrow2.cell hlt
      go_wp2
      go_region
      go_wp2
      go_roundw
      case rel => exact ⟨k + 1, by omega, by go_num, (row_step hrow rfl).drew, (hrow2.setOther (by simp) _).drew, (hres.setOther (by simp; omega) _).drew, (hb.setCell (Nat.le_refl _) _).drew⟩
      case measure => simp [intOf]; omega
    · have hrow' := row_all hrow (by omega)
      clear hrow
      obtain ⟨c0, c1, c2, c3, _⟩ := row4 hrow'
      obtain ⟨r0, r1, r2, r3, f0, f1, f2, f3⟩ := row4 hres
      go_wp2
      refine post_row4 (t := 4) (T := 24) (b := w.heap.size + 1 + 1) (f := fun j => .int .u64 (andw (x j) (y j))) Tryd.results7 rfl (row4_set hres (fun j => .int .u64 (andw (x j) (y j)))) Tryd.underlying24 (by kernel_rfl) rfl ?_
      exact ⟨rfl, below_set4 hb (by omega) (fun j => .int .u64 (andw (x j) (y j)))⟩
set_option maxHeartbeats 400000 in
theorem or_any (x y : Nat → Int) (w : World) :
    Calls Tryd.prog 8 #[.agg #[.int .u64 (x 0), .int .u64 (x 1), .int .u64 (x 2), .int .u64 (x 3)], .agg #[.int .u64 (y 0), .int .u64 (y 1), .int .u64 (y 2), .int .u64 (y 3)]] w fun e w' => e = .returned (.agg #[.int .u64 (orw (x 0) (y 0)), .int .u64 (orw (x 1) (y 1)), .int .u64 (orw (x 2) (y 2)), .int .u64 (orw (x 3) (y 3))]) ∧ Below w.heap.size w w' := by
  go_enter Tryd.func8, Tryd.ntmps8
  go_wp2
  go_loopw [6] (fun i wr => ∃ k : Nat, k ≤ 4 ∧ i = .int .i64 k ∧
      wr.rowIs w.heap.size 24 4 (fun j => if j < k then .int .u64 (orw (x j) (y j)) else .int .u64 (x j)) ∧ wr.rowIs (w.heap.size + 1) 24 4 (fun j => .int .u64 (y j)) ∧
      wr.rowIs (w.heap.size + 1 + 1) 24 4 (fun _ => .int .u64 0) ∧ Below w.heap.size w wr) (fun i _ => 4 - (intOf i).toNat)
  case atStart =>
    refine ⟨0, by omega, rfl, ?_, ?_, ?_, ?_⟩
    · exact ((row4_new w (fun j => .int .u64 (x j)) _).alloc _).alloc _
    · exact (row4_new1 w _ (fun j => .int .u64 (y j)) _).alloc _
    · have := row4_new1 (w.alloc (.cells #[.int .u64 (x 0), .int .u64 (x 1), .int .u64 (x 2), .int .u64 (x 3)] 24)) (.cells #[.int .u64 (y 0), .int .u64 (y 1), .int .u64 (y 2), .int .u64 (y 3)] 24) (fun _ => .int .u64 0) 24
      rwa [size_alloc] at this
    · exact (((Below.refl _ _).alloc (Nat.le_refl _) _).alloc (by simp) _).alloc (by simp; omega) _
  case round =>
    obtain ⟨k, hk, rfl, hrow, hrow2, hres, hb⟩ := hrel
    by_cases hlt : k < 4
    · have hcc := row_at hrow hlt
      have hfz := hrow.frozen k
      have hcd := hrow2.cell hlt
      go_wp2
      go_region
      go_wp2
      go_roundw
      case rel => exact ⟨k + 1, by omega, by go_num, (row_step hrow rfl).drew, (hrow2.setOther (by simp) _).drew, (hres.setOther (by simp; omega) _).drew, (hb.setCell (Nat.le_refl _) _).drew⟩
      case measure => simp [intOf]; omega
    · have hrow' := row_all hrow (by omega)
      clear hrow
      obtain ⟨c0, c1, c2, c3, _⟩ := row4 hrow'
      obtain ⟨r0, r1, r2, r3, f0, f1, f2, f3⟩ := row4 hres
      go_wp2
      refine post_row4 (t := 4) (T := 24) (b := w.heap.size + 1 + 1) (f := fun j => .int .u64 (orw (x j) (y j))) Tryd.results8 rfl (row4_set hres (fun j => .int .u64 (orw (x j) (y j)))) Tryd.underlying24 (by kernel_rfl) rfl ?_
      exact ⟨rfl, below_set4 hb (by omega) (fun j => .int .u64 (orw (x j) (y j)))⟩

theorem rhas_any (x : Nat → Int) (hx : W64 x) (b : Int) (h0 : 0 ≤ b) (h1 : b < 256) (w : World) :
    Calls Tryd.prog 10 #[.agg #[.int .u64 (x 0), .int .u64 (x 1), .int .u64 (x 2), .int .u64 (x 3)], .int .i64 b] w fun e w' => e = .returned (.bool (hasB x b.toNat)) ∧ Below w.heap.size w w' := by
  have hc := four_get (fun j => .int .u64 (x j)) (b / 64).toNat (by omega)
  have hq0 : 0 ≤ b / 64 := by omega
  have hq4 : b / 64 < 4 := by omega
  go_enter Tryd.func10, Tryd.ntmps10
  go_wp2
  go_loop [5, 6] (fun v i => ∃ k : Nat, (k : Int) ≤ b % 64 ∧ i = .int .i64 k ∧ v = .int .u64 (x (b / 64).toNat / 2 ^ k)) (fun _ i => 64 - (intOf i).toNat)
  case atStart => exact ⟨0, by omega, rfl, by rw [four_getE (fun j => .int .u64 (x j))]; simp⟩
  case round =>
    obtain ⟨k, hk, rfl, rfl⟩ := hrel
    have hw := hx (b / 64).toNat (by omega)
    by_cases hlt : (k : Int) < b % 64
    · go_wp2
      go_round
      case rel => exact ⟨k + 1, by omega, by go_num, by rw [half_step hw.1 hw.2]⟩
      case measure => simp [intOf]; omega
    · go_wp2
      go_ret
      refine ⟨?_, (Below.refl _ _).alloc (Nat.le_refl _) _⟩
      have e := odd_spelt hw.1 hw.2 k
      simp only [hasB]
      rw [show b.toNat / 64 = (b / 64).toNat by omega, show b.toNat % 64 = k by omega, ← e]
      rfl

set_option maxHeartbeats 400000 in
theorem put_any (x : Nat → Int) (hx : W64 x) (b : Int) (h0 : 0 ≤ b) (h1 : b < 256) (w : World) :
    Calls Tryd.prog 26 #[.agg #[.int .u64 (x 0), .int .u64 (x 1), .int .u64 (x 2), .int .u64 (x 3)], .int .i64 b] w (RetC (fun y => ∀ q : Nat, q < 256 → hasB y q = (hasB x q || decide ((q : Int) = b))) w) := by
  go_enter Tryd.func26, Tryd.ntmps26
  go_wp2_with fail
  refine (rhas_any x hx b h0 h1 _).mono ?_
  rintro e w2 ⟨rfl, hb2⟩
  have hrow := row_below ((row4_new w (fun j => .int .u64 (x j)) 24).alloc (.cells #[.int .u64 0, .int .u64 0, .int .u64 0, .int .u64 0] 24)) hb2
  have hres := row_below (row4_new1 w (.cells #[.int .u64 (x 0), .int .u64 (x 1), .int .u64 (x 2), .int .u64 (x 3)] 24) (fun _ => .int .u64 0) 24) hb2
  have hb : Below w.heap.size w w2 := below_trans' (((Below.refl _ w).alloc (Nat.le_refl _) _).alloc (by simp) _) (by simp; omega) hb2
  clear hb2
  obtain ⟨c0, c1, c2, c3, _⟩ := row4 hrow
  obtain ⟨r0, r1, r2, r3, f0, f1, f2, f3⟩ := row4 hres
  by_cases hB : hasB x b.toNat = true
  · go_wp2
    refine post_row4 (t := 4) (T := 24) (b := w.heap.size + 1) (f := fun j => .int .u64 (x j)) Tryd.results26 rfl (row4_set hres (fun j => .int .u64 (x j))) Tryd.underlying24 (by kernel_rfl) rfl ?_
    refine ⟨x, rfl, hx, fun q hq => ?_, below_set4 hb (Nat.le_succ _) (fun j => .int .u64 (x j))⟩
    by_cases e : (q : Int) = b
    · rw [show q = b.toNat by omega, hB]; simp
    · simp [e]
  · have hB' : hasB x b.toNat = false := by simpa using hB
    clear hB
    have hw := hx (b / 64).toNat (by omega)
    have hq0 : 0 ≤ b / 64 := by omega
    have hq4 : b / 64 < 4 := by omega
    have hcc := hrow.cell (i := (b / 64).toNat) (by omega)
    have hfz := hrow.frozen (b / 64).toNat
    have hm : b % 64 < 64 := by omega
    go_wp2
    go_loop [5, 6] (fun v i => ∃ k : Nat, (k : Int) ≤ b % 64 ∧ i = .int .i64 k ∧ v = .int .u64 (2 ^ k)) (fun _ i => 64 - (intOf i).toNat)
    case atStart => exact ⟨0, by omega, rfl, rfl⟩
    case round =>
      obtain ⟨k, hk, rfl, rfl⟩ := hrel
      by_cases hlt : (k : Int) < b % 64
      · go_wp2
        go_round
        case rel => exact ⟨k + 1, by omega, by go_num, by rw [double_step _ (by omega)]⟩
        case measure => simp [intOf]; omega
      · have hrow2 := (hrow.set (b / 64).toNat (.int .u64 (IntKind.u64.wrap (x (b / 64).toNat + 2 ^ k)))).congr (g := fun j => .int .u64 (setW x (b / 64).toNat (IntKind.u64.wrap (x (b / 64).toNat + 2 ^ k)) j)) (fun i _ => by simp only [setW]; split <;> rfl)
        obtain ⟨d0, d1, d2, d3, _⟩ := row4 hrow2
        go_wp2
        have hr2 := row4_set (hres.setOther (a := ⟨w.heap.size, (b / 64).toNat, none⟩) (by simp) (.int .u64 (IntKind.u64.wrap (x (b / 64).toNat + 2 ^ k)))) (fun j => .int .u64 (setW x (b / 64).toNat (IntKind.u64.wrap (x (b / 64).toNat + 2 ^ k)) j))
        refine post_row4 (t := 4) (T := 24) (b := w.heap.size + 1) (f := fun j => .int .u64 (setW x (b / 64).toNat (IntKind.u64.wrap (x (b / 64).toNat + 2 ^ k)) j)) Tryd.results26 rfl hr2 Tryd.underlying24 (by kernel_rfl) rfl ?_
        have hp := put_step hx h0 h1 (k := k) (by omega) hB'
        exact ⟨_, rfl, hp.1, hp.2, below_set4 (hb.setCell (Nat.le_refl _) _) (Nat.le_succ _) (fun j => .int .u64 (setW x (b / 64).toNat (IntKind.u64.wrap (x (b / 64).toNat + 2 ^ k)) j))⟩

set_option maxRecDepth 100000 in
set_option maxHeartbeats 400000 in
theorem made_any (cs : Array Value) (f : Nat → Bool) (hsz : cs.size = 256) (hf : ∀ i, i < 256 → cs[i]? = some (.bool (f i))) (w : World) :
    Calls Tryd.prog 24 #[.agg cs] w (RetC (fun y => ∀ q : Nat, q < 256 → hasB y q = f q) w) := by
  have H1 := Lib.hid hsz
  have H2 := Lib.hid hf
  clear hsz hf
  go_enter Tryd.func24, Tryd.ntmps24
  go_wp2
  go_loopw [4] (fun i wr => ∃ (k : Nat) (y : Nat → Int), k ≤ 256 ∧ i = .int .i64 k ∧ W64 y ∧ Hid (∀ q : Nat, q < 256 → hasB y q = (decide (q < k) && f q)) ∧ wr.rowIs w.heap.size 45 256 (fun i => .bool (f i)) ∧
      wr.rowIs (w.heap.size + 1 + 1) 24 4 (fun j => .int .u64 (y j)) ∧ wr.rowIs (w.heap.size + 1) 24 4 (fun _ => .int .u64 0) ∧ Below w.heap.size w wr) (fun i _ => 256 - (intOf i).toNat)
  case atStart =>
    refine ⟨0, fun _ => 0, by omega, rfl, w64_zero, fun q _ => by rw [has_empty]; simp, ?_, ?_, ?_, ?_⟩
    · exact ((row_box w cs _ H1.out H2.out).alloc _).alloc _
    · have := row4_new1 (w.alloc (.cells cs 45)) (.cells #[.int .u64 0, .int .u64 0, .int .u64 0, .int .u64 0] 24) (fun _ => .int .u64 0) 24
      rwa [size_alloc] at this
    · exact (row4_new1 w _ (fun _ => .int .u64 0) _).alloc _
    · exact (((Below.refl _ _).alloc (Nat.le_refl _) _).alloc (by simp) _).alloc (by simp; omega) _
  case round =>
    obtain ⟨k, y, hk, rfl, hy, hq, hin, hrow, hres, hb⟩ := hrel
    obtain ⟨c0, c1, c2, c3, _⟩ := row4 hrow
    by_cases hlt : k < 256
    · have hcell := hin.cell hlt
      by_cases hfk : f k = true
      · go_wp2_with fail
        refine (put_any y hy k (by omega) (by omega) _).mono ?_
        rintro e w2 ⟨z, rfl, hz, hzq, hb2⟩
        have hin2 := row_below hin hb2
        have hrow2 := row_below hrow hb2
        have hres2 := row_below hres hb2
        have hbb := below_trans' hb hb.size hb2
        clear hcell hin hrow hres hb hb2 c0 c1 c2 c3
        obtain ⟨c0, c1, c2, c3, e0, e1, e2, e3⟩ := row4 hrow2
        have Hz := Lib.hid hzq
        clear hzq
        go_wp2
        go_roundw
        case rel =>
          refine ⟨k + 1, z, by omega, by go_num, hz, fun q hq256 => ?_, row_far4 hin2 (by omega) (fun j => .int .u64 (z j)), row4_set hrow2 (fun j => .int .u64 (z j)), row_far4 hres2 (by omega) (fun j => .int .u64 (z j)), below_set4 hbb (by omega) (fun j => .int .u64 (z j))⟩
          rw [Hz.out q hq256, hq.out q hq256]
          by_cases e : q = k
          · subst e; simp [hfk]
          · rw [show decide ((q : Int) = (k : Int)) = false from decide_eq_false (by omega), Bool.or_false]
            congr 1
            apply decide_eq_decide.2
            omega
        case measure => simp [intOf]; omega
      · have hfk' : f k = false := by simpa using hfk
        clear hfk
        go_wp2
        go_roundw
        case rel =>
          refine ⟨k + 1, y, by omega, by go_num, hy, fun q hq256 => ?_, hin, hrow, hres, hb⟩
          rw [hq.out q hq256]
          by_cases e : q = k
          · subst e; simp [hfk']
          · congr 1
            apply decide_eq_decide.2
            omega
        case measure => simp [intOf]; omega
    · obtain ⟨r0, r1, r2, r3, f0, f1, f2, f3⟩ := row4 hres
      go_wp2
      refine post_row4 (t := 2) (T := 24) (b := w.heap.size + 1) (f := fun j => .int .u64 (y j)) Tryd.results24 rfl (row4_set hres (fun j => .int .u64 (y j))) Tryd.underlying24 (by kernel_rfl) rfl ?_
      refine ⟨y, rfl, hy, fun q hq256 => ?_, below_set4 hb (Nat.le_succ _) (fun j => .int .u64 (y j))⟩
      rw [hq.out q hq256, decide_eq_true (by omega), Bool.true_and]

theorem ones_any (a : Int) (h0 : 0 ≤ a) (h1 : a < U64) (w : World) :
    Calls Tryd.prog 21 #[.int .u64 a] w fun e w' => e = .returned (.int .i64 (cnt a.toNat.testBit 64 : Nat)) ∧ w = w' := by
  have H := Lib.hid (ones_spelt h0 h1)
  have H1 := Lib.hid h1
  clear h1 h0
  go_enter Tryd.func21, Tryd.ntmps21
  go_wp2
  go_ret
  exact ⟨congrArg (fun n => Ending.returned (.int .i64 n)) H.out, rfl⟩

theorem index4_0 (x : Nat → Int) (w : World) : (Instr.index 24 (.agg #[.int .u64 (x 0), .int .u64 (x 1), .int .u64 (x 2), .int .u64 (x 3)]) (.int .i64 0)).run Tryd.prog w = .ok (.int .u64 (x 0)) w := by kernel_rfl
theorem index4_1 (x : Nat → Int) (w : World) : (Instr.index 24 (.agg #[.int .u64 (x 0), .int .u64 (x 1), .int .u64 (x 2), .int .u64 (x 3)]) (.int .i64 1)).run Tryd.prog w = .ok (.int .u64 (x 1)) w := by kernel_rfl
theorem index4_2 (x : Nat → Int) (w : World) : (Instr.index 24 (.agg #[.int .u64 (x 0), .int .u64 (x 1), .int .u64 (x 2), .int .u64 (x 3)]) (.int .i64 2)).run Tryd.prog w = .ok (.int .u64 (x 2)) w := by kernel_rfl
theorem index4_3 (x : Nat → Int) (w : World) : (Instr.index 24 (.agg #[.int .u64 (x 0), .int .u64 (x 1), .int .u64 (x 2), .int .u64 (x 3)]) (.int .i64 3)).run Tryd.prog w = .ok (.int .u64 (x 3)) w := by kernel_rfl
theorem index4 (x : Nat → Int) (k : Nat) (hk : k < 4) (w : World) : (Instr.index 24 (.agg #[.int .u64 (x 0), .int .u64 (x 1), .int .u64 (x 2), .int .u64 (x 3)]) (.int .i64 k)).run Tryd.prog w = .ok (.int .u64 (x k)) w := by
  have h : k = 0 ∨ k = 1 ∨ k = 2 ∨ k = 3 := by omega
  rcases h with rfl | rfl | rfl | rfl
  · exact index4_0 x w
  · exact index4_1 x w
  · exact index4_2 x w
  · exact index4_3 x w

theorem size_any (x : Nat → Int) (hx : W64 x) (w : World) :
    Calls Tryd.prog 14 #[.agg #[.int .u64 (x 0), .int .u64 (x 1), .int .u64 (x 2), .int .u64 (x 3)]] w fun e w' => e = .returned (.int .i64 (sizeC x : Nat)) ∧ Below w.heap.size w w' := by
  go_enter Tryd.func14, Tryd.ntmps14
  go_wp2
  go_loop [3, 7] (fun n i => ∃ k : Nat, k ≤ 4 ∧ i = .int .i64 k ∧ n = .int .i64 (wordN x k : Nat)) (fun _ i => 4 - (intOf i).toNat)
  case atStart => exact ⟨0, by omega, rfl, rfl⟩
  case round =>
    obtain ⟨k, hk, rfl, rfl⟩ := hrel
    by_cases hlt : k < 4
    · have hi := index4 x k hlt
      have hw := hx k hlt
      have h1 := wordN_le x k
      have h2 := cnt_le (x k).toNat.testBit 64
      go_wp2_with (refine (ones_any (x k) hw.1 hw.2 _).mono ?_; rintro e w' ⟨rfl, rfl⟩)
      go_round
      case rel => exact ⟨k + 1, by omega, by go_num, by rw [wordN_succ]; go_num⟩
      case measure => simp [intOf]; omega
    · go_wp2
      go_ret
      refine ⟨?_, (Below.refl _ _).alloc (Nat.le_refl _) _⟩
      obtain rfl : k = 4 := by omega
      rfl

theorem retC_v {Q : (Nat → Int) → Prop} {f : Nat → Bool} (hQ : ∀ x, Q x → ∀ b : Nat, b < 256 → hasB x b = f b) {w : World} {e : Ending} {w' : World} (h : RetC Q w e w') :
    e = .returned (.agg #[.int .u64 (clsOf f 0), .int .u64 (clsOf f 1), .int .u64 (clsOf f 2), .int .u64 (clsOf f 3)]) ∧ Below w.heap.size w w' := by
  obtain ⟨x, rfl, hx, hq, hb⟩ := h
  have := clsOf_eq hx (hQ x hq)
  rw [this 0 (by omega), this 1 (by omega), this 2 (by omega), this 3 (by omega)]
  exact ⟨rfl, hb⟩
theorem of_v (l : List Int) (A : Option Addr) (c : Nat) (w : World) (hr : RdI w .u8 A l) (hl : Byt l) :
    Calls Tryd.prog 20 #[.slice A l.length c] w fun e w' => e = .returned (.agg #[.int .u64 (clsOf (memB l) 0), .int .u64 (clsOf (memB l) 1), .int .u64 (clsOf (memB l) 2), .int .u64 (clsOf (memB l) 3)]) ∧ Below w.heap.size w w' :=
  (of_any l A c w hr hl).mono fun _ _ h => retC_v (fun _ h => h) h
theorem range_v (lo hi : Int) (h1 : 0 ≤ lo) (h2 : lo < 256) (h3 : 0 ≤ hi) (h4 : hi < 256) (w : World) :
    Calls Tryd.prog 19 #[.int .u8 lo, .int .u8 hi] w fun e w' => e = .returned (.agg #[.int .u64 (clsOf (inR lo hi) 0), .int .u64 (clsOf (inR lo hi) 1), .int .u64 (clsOf (inR lo hi) 2), .int .u64 (clsOf (inR lo hi) 3)]) ∧ Below w.heap.size w w' :=
  (range_any lo hi h1 h2 h3 h4 w).mono fun _ _ h => retC_v (fun _ h => h) h
theorem made_v (cs : Array Value) (f : Nat → Bool) (hsz : cs.size = 256) (hf : ∀ i, i < 256 → cs[i]? = some (.bool (f i))) (w : World) :
    Calls Tryd.prog 24 #[.agg cs] w fun e w' => e = .returned (.agg #[.int .u64 (clsOf f 0), .int .u64 (clsOf f 1), .int .u64 (clsOf f 2), .int .u64 (clsOf f 3)]) ∧ Below w.heap.size w w' :=
  (made_any cs f hsz hf w).mono fun _ _ h => retC_v (fun _ h => h) h

theorem not_v (a0 a1 a2 a3 : Int) (w : World) :
    Calls Tryd.prog 9 #[.agg #[.int .u64 a0, .int .u64 a1, .int .u64 a2, .int .u64 a3]] w fun e w' => e = .returned (.agg #[.int .u64 (notw a0), .int .u64 (notw a1), .int .u64 (notw a2), .int .u64 (notw a3)]) ∧ Below w.heap.size w w' :=
  not_any (fn4 a0 a1 a2 a3) w
theorem and_v (a0 a1 a2 a3 b0 b1 b2 b3 : Int) (w : World) :
    Calls Tryd.prog 7 #[.agg #[.int .u64 a0, .int .u64 a1, .int .u64 a2, .int .u64 a3], .agg #[.int .u64 b0, .int .u64 b1, .int .u64 b2, .int .u64 b3]] w fun e w' => e = .returned (.agg #[.int .u64 (andw a0 b0), .int .u64 (andw a1 b1), .int .u64 (andw a2 b2), .int .u64 (andw a3 b3)]) ∧ Below w.heap.size w w' :=
  and_any (fn4 a0 a1 a2 a3) (fn4 b0 b1 b2 b3) w
theorem or_v (a0 a1 a2 a3 b0 b1 b2 b3 : Int) (w : World) :
    Calls Tryd.prog 8 #[.agg #[.int .u64 a0, .int .u64 a1, .int .u64 a2, .int .u64 a3], .agg #[.int .u64 b0, .int .u64 b1, .int .u64 b2, .int .u64 b3]] w fun e w' => e = .returned (.agg #[.int .u64 (orw a0 b0), .int .u64 (orw a1 b1), .int .u64 (orw a2 b2), .int .u64 (orw a3 b3)]) ∧ Below w.heap.size w w' :=
  or_any (fn4 a0 a1 a2 a3) (fn4 b0 b1 b2 b3) w
theorem size_v (a0 a1 a2 a3 : Int) (h : W64 (fn4 a0 a1 a2 a3)) (w : World) :
    Calls Tryd.prog 14 #[.agg #[.int .u64 a0, .int .u64 a1, .int .u64 a2, .int .u64 a3]] w fun e w' => e = .returned (.int .i64 (size4 a0 a1 a2 a3 : Nat)) ∧ Below w.heap.size w w' :=
  size_any (fn4 a0 a1 a2 a3) h w
theorem has_v (a0 a1 a2 a3 : Int) (h : W64 (fn4 a0 a1 a2 a3)) (b : Int) (h0 : 0 ≤ b) (h1 : b < 256) (w : World) :
    Calls Tryd.prog 11 #[.agg #[.int .u64 a0, .int .u64 a1, .int .u64 a2, .int .u64 a3], .int .u8 b] w fun e w' => e = .returned (.bool (hasB (fn4 a0 a1 a2 a3) b.toNat)) ∧ Below w.heap.size w w' :=
  has_any (fn4 a0 a1 a2 a3) h b h0 h1 w
end Go.Proofs.YthknfjiggdkcaaaDoor
