/- The walks of the statements ClassMakes and awake. -/
import Derived.Test.YthknfjiggdkcaaaClsW
import Derived.Deep.RegionHeld3
import Derived.Deep.DeepCutAuto
import Derived.Deep.RegionLaw
namespace Go.Proofs.Ythknfjiggdkcaaa
open Go.RowKit

theorem size_range37 : sizeC (clsOf (inR 3 9)) = 7 := by
  unfold sizeC
  rw [cnt_congr 256 (fun i _ => has_clsOf (inR 3 9) i)]
  decide +kernel

theorem awake_any (w : World) : Calls Try.prog 5 #[] w fun e w' => e = .returned (.bool true) ∧ Below w.heap.size w w' := by
  go_enter Try.func5, Try.ntmps5
  go_wp2_with fail
  refine (range_v 3 9 (by omega) (by omega) (by omega) (by omega) _).mono ?_
  rintro e w1 ⟨rfl, hb1⟩
  go_wp2_with fail
  refine (size_any (clsOf (inR 3 9)) (w64_clsOf _) _).mono ?_
  rintro e w2 ⟨he, hb2⟩
  rw [size_range37] at he
  subst he
  go_wp2_with fail
  refine (of_v [200] (some ⟨w2.heap.size, 0, none⟩) 1 _ ?_ ?_).mono ?_
  · exact rdI_new w2 .u8 200 5
  · intro b hb
    obtain rfl : b = 200 := by simpa using hb
    omega
  rintro e w3 ⟨rfl, hb3⟩
  go_wp2_with fail
  refine (has_any (clsOf (memB [200])) (w64_clsOf _) 200 (by omega) (by omega) _).mono ?_
  rintro e w4 ⟨he, hb4⟩
  rw [has_clsOf] at he
  have hm : memB [200] (200 : Int).toNat = true := by decide
  rw [hm] at he
  subst he
  go_wp2
  go_ret
  exact ⟨rfl, ext_trans (ext_trans (ext_alloc (ext_trans hb1 hb2) _) hb3) hb4⟩


theorem made_f (f : Nat → Bool) (w : World) :
    Calls Try.prog 7 #[.agg (cellsOf 256 (fun j => .bool (f j))).toArray] w fun e w' => e = .returned (.agg #[.int .u64 (clsOf f 0), .int .u64 (clsOf f 1), .int .u64 (clsOf f 2), .int .u64 (clsOf f 3)]) ∧ Below w.heap.size w w' :=
  made_v _ f (by simp [cellsOf_length]) (fun i hi => cellsOf_get _ hi) w
theorem info256 : (Try.prog.info? 24).map (·.size) = some 256 := by kernel_rfl
theorem load256 {w : World} (ρ : Operand → Value) (x : Operand) (dst : Option Tmp) (t2 : TypeId) (pos : String) (af : Array Edge) (g : Option (Nat × Bool)) (h : (seenPtr w (ρ x) 256).isSome = true) :
    (execOp ρ ⟨dst, .load 24 x, t2, pos, af, g⟩).run Try.prog w = .ok (.value (.agg ((seenPtr w (ρ x) 256).getD #[]))) w :=
  exec_load_seen Try.underlying24 rfl info256 ρ x dst t2 pos af g h
attribute [local go_sem ↓] load256
attribute [local go_sem] seenPtr_at
/-- What is kept while the last statement's operations come up. -/
abbrev KP (w : World) (l : List Int) (A : Option Addr) (b : Nat) (c1 c2 : List Value) (W : World) : Prop :=
  RdI W .u8 A l ∧ seenAt W ⟨b, 0, none⟩ 256 = some c1.toArray ∧ seenAt W ⟨b + 1, 0, none⟩ 256 = some c2.toArray ∧ (W.rangeAt b 0 c1 ∧ W.rangeAt (b + 1) 0 c2 ∧ c1.length = 256 ∧ c2.length = 256) ∧ Below w.heap.size w W
theorem keep2 {w : World} {l : List Int} {A : Option Addr} {b : Nat} {c1 c2 : List Value} {W w' : World} (hS : KP w l A b c1 c2 W) (hb : Below W.heap.size W w') : KP w l A b c1 c2 w' :=
  ⟨hS.1.below hb, seenAt_of (range_below hS.2.2.2.1.1 hb) hS.2.2.2.1.2.2.1, seenAt_of (range_below hS.2.2.2.1.2.1 hb) hS.2.2.2.1.2.2.2, ⟨range_below hS.2.2.2.1.1 hb, range_below hS.2.2.2.1.2.1 hb, hS.2.2.2.1.2.2⟩, ext_trans hS.2.2.2.2 hb⟩
theorem keep0 {w : World} {l : List Int} {A : Option Addr} {b : Nat} {c1 c2 : List Value} {W : World} (hr : RdI w .u8 A l) (h1 : W.rangeAt b 0 c1) (h2 : W.rangeAt (b + 1) 0 c2) (h3 : c1.length = 256) (h4 : c2.length = 256) (hb : Below w.heap.size w W) : KP w l A b c1 c2 W.drew :=
  ⟨show RdI W .u8 A l from hr.below hb, seenAt_of (w := W) h1 h3, seenAt_of (w := W) h2 h4, ⟨h1, h2, h3, h4⟩, hb.drew⟩
def upR (lo : Int) (q : Nat) (j : Nat) : Bool := decide (lo ≤ j ∧ j < q)
def Z256 : Array Value := Array.replicate 256 (.bool false)
theorem zero256 (w : World) : (zeroValue 24).run Try.prog w = .ok (.agg Z256) w := by kernel_rfl
theorem z256_get (i : Nat) (h : i < 256) : Z256[i]? = some (.bool ((fun _ => false) i)) := by simp [Z256, h]
theorem z256_size : Z256.size = 256 := by simp [Z256]

set_option maxRecDepth 100000 in
set_option maxHeartbeats 1000000 in
theorem classMakes_any (l : List Int) (A : Option Addr) (c : Nat) (lo hi : Int) (w : World) (hr : RdI w .u8 A l) (hl : Byt l) (h1 : 0 ≤ lo) (h2 : lo < 256) (h3 : 0 ≤ hi) (h4 : hi < 256) :
    Calls Try.prog 3 #[.slice A l.length c, .int .u8 lo, .int .u8 hi] w fun e w' => e = .returned (.bool true) ∧ Below w.heap.size w w' := by
  have hlen := hr.1
  by_cases hg : 100 < l.length
  · go_enter Try.func3, Try.ntmps3
    go_wp2_with fail
    refine (awake_any _).mono ?_
    rintro e w1 ⟨rfl, hb1⟩
    go_wp2_with fail
    refine (awake_any _).mono ?_
    rintro e w2 ⟨rfl, hb2⟩
    go_wp2
    go_ret
    exact ⟨rfl, ext_trans hb1 hb2⟩
  · go_enter Try.func3, Try.ntmps3
    go_wp2_with fail
    refine (awake_any _).mono ?_
    rintro e w1 ⟨rfl, hb1⟩
    have hz := zero256
    go_wp2
    go_loopw [9] (fun i wr => ∃ k : Nat, k ≤ l.length ∧ i = .int .i64 k ∧ wr.rowIs w1.heap.size 24 256 (fun j => .bool (memB (l.take k) j)) ∧ wr.rowIs (w1.heap.size + 1) 24 256 (fun _ => .bool false) ∧ Below w.heap.size w wr) (fun i _ => l.length - (intOf i).toNat)
    case atStart =>
      refine ⟨0, by omega, rfl, ?_, ?_, ext_alloc (ext_alloc hb1 _) _⟩
      · exact ((row_box w1 Z256 24 z256_size z256_get).alloc _).congr fun i _ => by simp [memB]
      · have := row_box (w1.alloc (.cells Z256 24)) Z256 24 z256_size z256_get
        rwa [size_alloc] at this
    case round =>
      obtain ⟨k, hk, rfl, hrow, hrow2, hb⟩ := hrel
      by_cases hlt : k < l.length
      · obtain ⟨ad, rfl, hc⟩ := hr.2 (by omega)
        have hb0 := hl.at_ hlt
        have hck := (hb.cell (World.block_lt_of_cell? w _ (hc k hlt))).trans (hc k hlt)
        clear hc
        obtain ⟨b, hbe⟩ : ∃ b, b = l.getD k 0 := ⟨_, rfl⟩
        rw [← hbe] at hb0 hck
        obtain ⟨hb1', hb2'⟩ := hb0
        have Hbe := Lib.hid hbe
        clear hbe
        have hcc := hrow.cell (i := b.toNat) (by omega)
        have hfz := hrow.frozen b.toNat
        go_wp2
        go_roundw
        case rel =>
          refine ⟨k + 1, by omega, by go_num, (hrow.set _ _).congr fun i _ => ?_, hrow2.setOther (by simp) _, hb.setCell (by exact hb1.size) _⟩
          have := mem_take_succ hlt (i : Int)
          rw [← Hbe.out] at this
          unfold memB
          simp only [this]
          by_cases e : i = b.toNat
          · rw [if_pos e, decide_eq_true (Or.inr (by omega))]
          · rw [if_neg e]
            congr 1
            apply decide_eq_decide.2
            constructor
            · exact Or.inl
            · rintro (h | h)
              · exact h
              · omega
        case measure => simp [intOf]; omega
      · have hrow' := hrow.congr (g := fun j => .bool (memB l j)) (fun i _ => by rw [List.take_of_length_le (by omega)])
        clear hrow
        obtain ⟨wo, rfl⟩ : ∃ wo : World, wo = wr := ⟨_, rfl⟩
        go_wp2
        go_loopw [10] (fun i wr => ∃ q : Nat, lo ≤ q ∧ ((q : Int) ≤ hi + 1 ∨ (q : Int) = lo) ∧ i = .int .i64 q ∧ wr.rowIs w1.heap.size 24 256 (fun j => .bool (memB l j)) ∧ wr.rowIs (w1.heap.size + 1) 24 256 (fun j => .bool (upR lo q j)) ∧ Below w.heap.size w wr) (fun i _ => 256 - (intOf i).toNat)
        case atStart =>
          refine ⟨lo.toNat, by omega, by omega, by rw [Int.toNat_of_nonneg h1], hrow', hrow2.congr fun i _ => ?_, hb⟩
          rw [show upR lo lo.toNat i = false from decide_eq_false (by omega)]
        case round =>
          obtain ⟨q, hq1, hq2, rfl, hrowa, hrowb, hbr⟩ := hrel
          by_cases hlt2 : (q : Int) ≤ hi
          · have hcc := hrowb.cell (i := q) (by omega)
            have hfz := hrowb.frozen q
            clear hq2
            go_wp2
            go_roundw
            case rel =>
              refine ⟨q + 1, by omega, by omega, by go_num, hrowa.setOther (by simp) _, (hrowb.set _ _).congr fun i _ => ?_, hbr.setCell (by have := hb1.size; exact Nat.le_succ_of_le this) _⟩
              unfold upR
              by_cases e : i = q
              · rw [if_pos e, decide_eq_true (by omega)]
              · rw [if_neg e]
                congr 1
                apply decide_eq_decide.2
                omega
            case measure => simp [intOf]; omega
          · have hrowb' := hrowb.congr (g := fun j => .bool (inR lo hi j)) (fun i _ => by
              unfold upR inR
              congr 1
              apply decide_eq_decide.2
              omega)
            clear hrowb
            have hk0 : KP w l A (w1.heap.size) (cellsOf 256 (fun j => .bool (memB l j))) (cellsOf 256 (fun j => .bool (inR lo hi j))) wr.drew := keep0 hr (range_row hrowa) (range_row hrowb') (cellsOf_length _ _) (cellsOf_length _ _) hbr
            clear hbr hrowa hrowb'
            have hs1 := hk0.2.1
            have hs2 := hk0.2.2.1
            have heq := eqC
            have hl1 := cellsOf_length 256 (fun j => Value.bool (memB l j))
            go_wp2
            go_region_law (first
                | (go_simp; go_at_call 6; refine (of_v l _ c _ (And.left (by assumption)) hl).mono ?_; rintro e w' ⟨rfl, hb'⟩; have hk1 := keep2 (by assumption) hb'; clear hb'; have hs1 := hk1.2.1; have hs2 := hk1.2.2.1)
                | (go_simp; go_at_call 8; refine (range_v lo hi h1 h2 h3 h4 _).mono ?_; rintro e w' ⟨rfl, hb'⟩; have hk1 := keep2 (by assumption) hb'; clear hb'; have hs1 := hk1.2.1; have hs2 := hk1.2.2.1)
                | (go_simp; go_at_call 7; refine (made_f _ _).mono ?_; rintro e w' ⟨rfl, hb'⟩; have hk1 := keep2 (by assumption) hb'; clear hb'; have hs1 := hk1.2.1; have hs2 := hk1.2.2.1))
            all_goals
              go_wp2
              go_ret
              exact ⟨rfl, hk1.2.2.2.2⟩
end Go.Proofs.Ythknfjiggdkcaaa
