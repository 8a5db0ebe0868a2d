/- The program's Parts. -/
import Derived.Test.YthknfjiggdkcaaaDoorPt7
namespace Go.Proofs.YthknfjiggdkcaaaDoor
open Go.RowKit Go.Maps
set_option linter.unusedVariables false
set_option linter.unusedSimpArgs false

set_option maxHeartbeats 1000000 in
theorem parts_any (l : List Cw) (hl : AllW l) (hn : l.length ≤ 256) (A : Option Addr) (c : Nat) (w : World) (hs : Cs w A c l) (hall : w.cell? ⟨0, 0, none⟩ = some (.int .i64 256)) :
    Calls Tryd.prog 16 #[.slice A l.length c] w fun e w' => ∃ v base, e = .returned v ∧ w.heap.size ≤ base ∧ OutS l w' base v 256 ∧ Below w.heap.size w w' := by
  have hnz : ¬ (l.length : Int) > 256 := by omega
  have hcap := hs.cap
  have hmax := hs.max
  have HL := Lib.hid hl
  clear hl
  go_enter Tryd.func16, Tryd.ntmps16
  go_wp2_with fail
  refine (range_v 0 255 (by omega) (by omega) (by omega) (by omega) _).mono ?_
  rintro e w1 ⟨rfl, hb1⟩
  obtain ⟨p, hp⟩ : ∃ p, p = clsOf (inR 0 255) := ⟨_, rfl⟩
  have hpw : W64 p := by rw [hp]; exact w64_clsOf _
  have hpa : ∀ q : Nat, q < 256 → hasB p q = true := fun q hq => by rw [hp, has_clsOf]; unfold inR; exact decide_eq_true (by omega)
  rw [← hp]
  clear hp
  obtain ⟨w2, hw2⟩ : ∃ w2, w2 = w1.alloc (.cells #[.int .u64 (p 0), .int .u64 (p 1), .int .u64 (p 2), .int .u64 (p 3)] 24) := ⟨_, rfl⟩
  have hblk : w2.heap[w1.heap.size]? = some (.cells #[.int .u64 (p 0), .int .u64 (p 1), .int .u64 (p 2), .int .u64 (p 3)] 24 (0, 0)) := by rw [hw2]; exact heap_alloc_new w1 _
  have hb2 : Below w.heap.size w w2 := by rw [hw2]; exact hb1.alloc hb1.size _
  have hal := (hb2.cell (World.block_lt_of_cell? w _ hall)).trans hall
  have hcs : Cs w2 (some ⟨w1.heap.size, 0, none⟩) 1 [p] := ⟨by simp, by omega, fun e => (by cases e), fun ad e j hj => by
    have : j = 0 := by simp at hj; omega
    subst this
    injection e with e
    subst e
    exact ⟨(blk_cell hblk 0).trans rfl, (blk_cell hblk 1).trans rfl, (blk_cell hblk 2).trans rfl, (blk_cell hblk 3).trans rfl⟩⟩
  have hsp := split_any l HL.out hn A (some ⟨w1.heap.size, 0, none⟩) c 1 p hpw hpa w2 (hs.below hb2) hcs hal
  have hsz := hb2.size
  obtain ⟨g1, hg1⟩ : ∃ g1, g1 = w1.heap.size := ⟨_, rfl⟩
  rw [← hg1] at hsp
  clear hcs hblk
  go_wp2_with fail
  rw [← hg1, ← hw2]
  clear hw2 hg1
  go_loopw [0, 3] (fun a b wr => a = .slice A l.length c ∧ b = .slice (some ⟨g1, 0, none⟩) 1 1 ∧ wr = w2) (fun _ _ _ => 0)
  case atStart => exact ⟨rfl, rfl, rfl⟩
  case round =>
    obtain ⟨rfl, rfl, rfl⟩ := hrel
    go_wp2_with fail
    refine hsp.mono ?_
    rintro e w3 ⟨v, rfl, ho, hb3⟩
    clear hsp hal
    go_wp2
    go_ret
    exact ⟨_, wr.heap.size + 1, rfl, by omega, ho, ext_trans hb2 hb3⟩
end Go.Proofs.YthknfjiggdkcaaaDoor
