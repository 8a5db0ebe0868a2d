/- The walks of Same for runs. -/
import Derived.Test.YtbdgfbkhplhpkaaDoorRunW
import Derived.Laws.StructEq
namespace Go.Proofs.YtbdgfbkhplhpkaaDoor
open Go.RowKit

set_option maxHeartbeats 1000000 in
theorem sameRuns_any (rs : List Rn) (A A' : Option Addr) (c c' : Nat) (w : World) (hs : Rs w A c rs) (hs' : Rs w A' c' rs) :
    Calls Tryd.prog 10 #[.slice A rs.length c, .slice A' rs.length c'] w fun e w' => e = .returned (.bool true) ∧ Below w.heap.size w w' := by
  have hcap := hs.cap
  have hmax := hs.max
  go_enter Tryd.func10, Tryd.ntmps10
  go_wp2
  go_loopw [5] (fun i wr => ∃ k : Nat, k ≤ rs.length ∧ i = .int .i64 k ∧ Below w.heap.size w wr) (fun i _ => rs.length - (intOf i).toNat)
  case atStart => exact ⟨0, Nat.zero_le _, rfl, Below.refl _ _⟩
  case round =>
    obtain ⟨k, hk, rfl, hb⟩ := hrel
    by_cases hlt : k < rs.length
    · obtain ⟨ad, rfl, hc0, hc1⟩ := (hs.below hb).at_ hlt
      obtain ⟨ad', rfl, hd0, hd1⟩ := (hs'.below hb).at_ hlt
      go_wp2
      go_quiet (fail)
      go_wp2
      go_roundw
      case rel => exact ⟨k + 1, by omega, by go_num, below_drewN hb _⟩
      case measure => simp [intOf]; omega
    · go_wp2
      go_ret
      exact ⟨rfl, hb⟩

end Go.Proofs.YtbdgfbkhplhpkaaDoor
