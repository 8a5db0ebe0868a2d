/- The walk of marks: which of the classes have a byte, as bits. -/
import Derived.Test.YthknfjiggdkcaaaDoorPt2
namespace Go.Proofs.YthknfjiggdkcaaaDoor
open Go.RowKit
set_option linter.unusedVariables false
set_option linter.unusedSimpArgs false

/-- Has the j-th class the byte? -/
def hasAt (l : List Cw) (b j : Nat) : Bool := decide (j < l.length) && hasB (clAt l j) b
set_option maxHeartbeats 1000000 in
theorem marks_any (l : List Cw) (hl : AllW l) (hn : l.length ≤ 256) (b : Nat) (hb256 : b < 256) (A : Option Addr) (c : Nat) (w : World) (hs : Cs w A c l) :
    Calls Tryd.prog 25 #[.slice A l.length c, .int .u8 b] w (RetC (fun x => ∀ q : Nat, q < 256 → hasB x q = hasAt l b q) w) := by
  have hcap := hs.cap
  have hmax := hs.max
  have HL := Lib.hid hl
  clear hl
  go_enter Tryd.func25, Tryd.ntmps25
  go_wp2
  go_loopw [10] (fun i wr => ∃ (k : Nat) (x : Nat → Int), k ≤ l.length ∧ i = .int .i64 k ∧ W64 x ∧ Hid (∀ q : Nat, q < 256 → hasB x q = (decide (q < k) && hasB (clAt l q) b)) ∧
      wr.rowIs (w.heap.size + 1) 51 4 (fun j => .int .u64 (x j)) ∧ wr.rowIs w.heap.size 51 4 (fun _ => .int .u64 0) ∧ Below w.heap.size w wr) (fun i _ => l.length - (intOf i).toNat)
  case atStart =>
    refine ⟨0, fun _ => 0, Nat.zero_le _, rfl, w64_zero, fun q _ => by rw [has_empty]; simp, ?_, ?_, ?_⟩
    · exact row4_new1 w _ (fun _ => .int .u64 0) _
    · exact (row4_new w (fun _ => .int .u64 0) _).alloc _
    · exact ((Below.refl _ _).alloc (Nat.le_refl _) _).alloc (by simp) _
  case round =>
    obtain ⟨k, x, hk, rfl, hx, hh, hrow, hres, hb⟩ := hrel
    by_cases hlt : k < l.length
    · have hlz : (k : Int) < (l.length : Int) := by omega
      obtain ⟨ad, rfl, a0, a1, a2, a3⟩ := (hs.below hb).at_ hlt
      have hy := HL.out k hlt
      obtain ⟨y, hye⟩ : ∃ y, y = clAt l k := ⟨_, rfl⟩
      rw [← hye] at a0 a1 a2 a3 hy
      have HY := Lib.hid hye
      have hcall := fun W => has_any y hy (b : Int) (by omega) (by omega) W
      rw [Int.toNat_natCast] at hcall
      have hrowA := hrow.alloc (.cells #[.int .u64 (y 0), .int .u64 (y 1), .int .u64 (y 2), .int .u64 (y 3)] 24)
      have hresA := hres.alloc (.cells #[.int .u64 (y 0), .int .u64 (y 1), .int .u64 (y 2), .int .u64 (y 3)] 24)
      have hbA := hb.alloc hb.size (.cells #[.int .u64 (y 0), .int .u64 (y 1), .int .u64 (y 2), .int .u64 (y 3)] 24)
      clear hye
      cases hp : hasB y b with
      | true =>
        have hp' : hasB (clAt l k) b = true := by rw [← HY.out]; exact hp
        rw [hp] at hcall
        have HP := Lib.hid hp'
        clear hp hp'
        go_wp2_with fail
        refine (hcall _).mono ?_
        rintro e w2 ⟨rfl, hb2⟩
        have hrow2 := row_below hrowA hb2
        have hres2 := row_below hresA hb2
        have hbb := ext_trans hbA hb2
        clear hcall hrow hres hrowA hresA hb hbA hb2 a0 a1 a2 a3
        have hcc := hrow2.cell (i := ((k : Int) / 64).toNat) (by omega)
        have hfz := hrow2.frozen ((k : Int) / 64).toNat
        have hand := and63 (k := k) (by omega) (by omega)
        have hq0 : 0 ≤ (k : Int) / 64 := by omega
        have hq4 : (k : Int) / 64 < 4 := by omega
        have hm0 : 0 ≤ (k : Int) % 64 := by omega
        go_wp2
        go_region
        go_wp2
        have ⟨hw, hst⟩ := or_step hx (b := k) (by omega) (by omega)
        go_roundw
        case rel =>
          refine ⟨k + 1, setW x _ _, by omega, by go_num, hw, ?_, ((hrow2.set _ _).congr fun i _ => ?_).drew, (hres2.setOther (by simp) _).drew, (hbb.setCell (by simp) _).drew⟩
          · intro q hq
            rw [hst q hq, hh.out q hq]
            by_cases e : q = k
            · subst e; rw [HP.out]; simp
            · rw [show decide ((q : Int) = (k : Int)) = false from decide_eq_false (by omega), Bool.or_false]
              congr 1
              apply decide_eq_decide.2
              omega
          · simp only [setW, show ((k : Int) / 64).toNat = k / 64 by omega, show ((k : Int) % 64).toNat = k % 64 by omega]
            split <;> rfl
        case measure => simp [intOf]; omega
      | false =>
        have hp' : hasB (clAt l k) b = false := by rw [← HY.out]; exact hp
        rw [hp] at hcall
        have HP := Lib.hid hp'
        clear hp hp'
        go_wp2_with fail
        refine (hcall _).mono ?_
        rintro e w2 ⟨rfl, hb2⟩
        have hrow2 := row_below hrowA hb2
        have hres2 := row_below hresA hb2
        have hbb := ext_trans hbA hb2
        clear hcall hrow hres hrowA hresA hb hbA hb2 a0 a1 a2 a3
        go_wp2
        go_roundw
        case rel =>
          refine ⟨k + 1, x, by omega, by go_num, hx, ?_, hrow2, hres2, hbb⟩
          intro q hq
          rw [hh.out q hq]
          by_cases e : q = k
          · subst e; rw [HP.out]; simp
          · congr 1
            apply decide_eq_decide.2
            omega
        case measure => simp [intOf]; omega
    · obtain rfl : k = l.length := by omega
      obtain ⟨c0, c1, c2, c3, _⟩ := row4 hrow
      obtain ⟨r0, r1, r2, r3, f0, f1, f2, f3⟩ := row4 hres
      go_wp2
      refine post_row4 (t := 4) (T := 51) (b := w.heap.size) (f := fun j => .int .u64 (x j)) Tryd.results25 rfl (row4_set hres (fun j => .int .u64 (x j))) Tryd.underlying51 (by kernel_rfl) rfl ?_
      exact ⟨x, rfl, hx, fun q hq => hh.out q hq, below_set4 hb (Nat.le_refl _) (fun j => .int .u64 (x j))⟩
end Go.Proofs.YthknfjiggdkcaaaDoor
