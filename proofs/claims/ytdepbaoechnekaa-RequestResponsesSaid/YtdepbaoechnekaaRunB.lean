/- The walks of EncodeResponse and of the reference's Response at a response that has no bytes. -/
import Derived.Test.YtdepbaoechnekaaRunR
namespace Go.Proofs.Ytdepbaoechnekaa
open Go.RowKit

/-- Responses that have bytes. -/
def RespF (E P : Int) (t : Nat) (rs : List Rn) : Prop := 0 ≤ E ∧ E ≤ 255 ∧ 0 ≤ P ∧ P ≤ 65535 ∧ t ≤ 65535 ∧ runsOk rs = true

set_option maxHeartbeats 1000000 in
theorem refResp_bad (E Pl N : Int) (y : Bool) (t : ByteArray) (rs : List Rn) (A : Option Addr) (c : Nat) (w : World) (hs : Rs w A c rs) (hT : ∀ i, I64 (rT rs i)) (hF : ¬ RespF E Pl t.size rs) :
    Calls Try.prog 14 #[.agg #[.int .i64 E, .int .i64 Pl, .bool y, .string t, .int .i64 N, .slice A rs.length c]] w fun e w' =>
      e = .returned (.tuple #[.slice none 0 0, .bool false]) ∧ Below w.heap.size w w' := by
  have box : RSt w w.heap.size #[.int .i64 E, .int .i64 Pl, .bool y, .string t, .int .i64 N, .slice A rs.length c] (w.alloc (.cells #[.int .i64 E, .int .i64 Pl, .bool y, .string t, .int .i64 N, .slice A rs.length c] 38)) :=
    ⟨heap_alloc_new w _, (Below.refl _ w).alloc (Nat.le_refl _) _, by simp⟩
  go_enter Try.func14, Try.ntmps14
  go_wp2_with fail
  refine (formedF_any rs hT A c _ (hs.alloc _)).mono ?_
  rintro e w1 ⟨rfl, hb1⟩
  have st1 := box.later hb1
  clear box hb1
  obtain ⟨q0, q1, q2, q3, q4, q5⟩ := s_cells st1.blk
  by_cases h1 : E < 0
  · clear hF
    go_wp2
    go_ret2
    exact ⟨rfl, st1.ext⟩
  by_cases h2 : 255 < E
  · clear hF
    go_wp2
    go_ret2
    exact ⟨rfl, st1.ext⟩
  by_cases h3 : Pl < 0
  · clear hF
    go_wp2
    go_ret2
    exact ⟨rfl, st1.ext⟩
  by_cases h4 : 65535 < Pl
  · clear hF
    go_wp2
    go_ret2
    exact ⟨rfl, st1.ext⟩
  by_cases h5 : 65535 < t.size
  · clear hF
    go_wp2
    go_ret2
    exact ⟨rfl, st1.ext⟩
  have h6 : runsOk rs = false := by
    cases h : runsOk rs with
    | false => rfl
    | true => exact absurd ⟨by omega, by omega, by omega, by omega, by omega, h⟩ hF
  rw [h6]
  clear hF
  go_wp2
  go_ret2
  exact ⟨rfl, st1.ext⟩

set_option maxHeartbeats 1000000 in
theorem encodeR_bad (E Pl N : Int) (y : Bool) (t : ByteArray) (rs : List Rn) (A : Option Addr) (c : Nat) (w : World) (hs : Rs w A c rs) (hT : ∀ i, I64 (rT rs i)) (hF : ¬ RespF E Pl t.size rs) :
    Calls Try.prog 15 #[.agg #[.int .i64 E, .int .i64 Pl, .bool y, .string t, .int .i64 N, .slice A rs.length c]] w fun e w' =>
      e = .returned (.tuple #[.slice none 0 0, .int .i64 1]) ∧ Below w.heap.size w w' := by
  have hbl : ∀ o, Below w.heap.size w (w.alloc o) := fun o => (Below.refl _ w).alloc (Nat.le_refl _) o
  go_enter Try.func15, Try.ntmps15
  by_cases h1 : E < 0
  · clear hF
    go_wp2
    go_ret2
    exact ⟨rfl, hbl _⟩
  by_cases h2 : 255 < E
  · clear hF
    go_wp2
    go_ret2
    exact ⟨rfl, hbl _⟩
  by_cases h3 : Pl < 0
  · clear hF
    go_wp2
    go_ret2
    exact ⟨rfl, hbl _⟩
  by_cases h4 : 65535 < Pl
  · clear hF
    go_wp2
    go_ret2
    exact ⟨rfl, hbl _⟩
  by_cases h5 : 65535 < t.size
  · clear hF
    go_wp2
    go_ret2
    exact ⟨rfl, hbl _⟩
  have h6 : runsOk rs = false := by
    cases h : runsOk rs with
    | false => rfl
    | true => exact absurd ⟨by omega, by omega, by omega, by omega, by omega, h⟩ hF
  clear hF
  go_wp2_with fail
  refine (formedR_any rs hT A c _ (hs.alloc _)).mono ?_
  rintro e w1 ⟨rfl, hb1⟩
  rw [h6]
  go_wp2
  go_ret2
  exact ⟨rfl, below_step (hbl _) hb1 (by simp)⟩
end Go.Proofs.Ytdepbaoechnekaa
