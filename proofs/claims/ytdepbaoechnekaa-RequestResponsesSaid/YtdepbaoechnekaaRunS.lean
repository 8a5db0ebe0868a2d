/- The walks of Same for runs, of SameResponse. -/
import Derived.Test.YtdepbaoechnekaaRunW
import Derived.Test.YtdepbaoechnekaaReqS
import Derived.Laws.StructEq
namespace Go.Proofs.Ytdepbaoechnekaa
open Go.RowKit

set_option maxHeartbeats 1000000 in
theorem sameRuns_any (rs : List Rn) (A A' : Option Addr) (c c' : Nat) (w : World) (hs : Rs w A c rs) (hs' : Rs w A' c' rs) :
    Calls Try.prog 25 #[.slice A rs.length c, .slice A' rs.length c'] w fun e w' => e = .returned (.bool true) ∧ Below w.heap.size w w' := by
  have hcap := hs.cap
  have hmax := hs.max
  go_enter Try.func25, Try.ntmps25
  go_wp2
  go_loopw [5] (fun i wr => ∃ k : Nat, k ≤ rs.length ∧ i = .int .i64 k ∧ Below w.heap.size w wr) (fun i _ => rs.length - (intOf i).toNat)
  case atStart => exact ⟨0, Nat.zero_le _, rfl, Below.refl _ _⟩
  case round =>
    obtain ⟨k, hk, rfl, hb⟩ := hrel
    by_cases hlt : k < rs.length
    · obtain ⟨ad, rfl, hc0, hc1⟩ := (hs.below hb).at_ hlt
      obtain ⟨ad', rfl, hd0, hd1⟩ := (hs'.below hb).at_ hlt
      go_wp2
      go_quiet (fail)
      go_wp2
      go_roundw
      case rel => exact ⟨k + 1, by omega, by go_num, below_drewN hb _⟩
      case measure => simp [intOf]; omega
    · go_wp2
      go_ret
      exact ⟨rfl, hb⟩

theorem sameResp_any (E Pl N : Int) (y : Bool) (t : ByteArray) (rs : List Rn) (A A' : Option Addr) (c c' : Nat) (w : World) (hs : Rs w A c rs) (hs' : Rs w A' c' rs) :
    Calls Try.prog 13 #[.agg #[.int .i64 E, .int .i64 Pl, .bool y, .string t, .int .i64 N, .slice A rs.length c], .agg #[.int .i64 E, .int .i64 Pl, .bool y, .string t, .int .i64 N, .slice A' rs.length c']] w fun e w' =>
      e = .returned (.bool true) ∧ Below w.heap.size w w' := by
  go_enter Try.func13, Try.ntmps13
  go_wp2_with fail
  refine (sameRuns_any rs A A' c c' _ ((hs.alloc _).alloc _) ((hs'.alloc _).alloc _)).mono ?_
  rintro e w1 ⟨rfl, hb1⟩
  go_wp2
  go_ret
  exact ⟨rfl, below_step (((Below.refl _ w).alloc (Nat.le_refl _) _).alloc (by simp) _) hb1 (by simp; omega)⟩
end Go.Proofs.Ytdepbaoechnekaa
