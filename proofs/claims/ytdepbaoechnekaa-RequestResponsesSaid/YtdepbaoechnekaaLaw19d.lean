/- The walk of the statement RequestResponses. -/
import Derived.Test.YtdepbaoechnekaaResP
import Derived.Test.YtdepbaoechnekaaRunB
import Derived.Test.YtdepbaoechnekaaRunF
namespace Go.Proofs.Ytdepbaoechnekaa
open Go.RowKit

set_option maxHeartbeats 40000000 in
theorem responses_any (E P N : Int) (y : Bool) (t : ByteArray) (rs : List Rn) (A : Option Addr) (c : Nat) (w : World) (hs : Rs w A c rs) (hT : ∀ i, I64 (rT rs i)) (hN : I64 N) (ht : t.size ≤ 9223372036854775807) :
    Calls Try.prog 6 #[.agg #[.int .i64 E, .int .i64 P, .bool y, .string t, .int .i64 N, .slice A rs.length c]] w fun e w' => e = .returned (.bool true) ∧ Below w.heap.size w w' := by
  have hcap := hs.cap
  have hmax := hs.max
  have box : RSt w w.heap.size #[.int .i64 E, .int .i64 P, .bool y, .string t, .int .i64 N, .slice A rs.length c] (w.alloc (.cells #[.int .i64 E, .int .i64 P, .bool y, .string t, .int .i64 N, .slice A rs.length c] 38)) :=
    ⟨heap_alloc_new w _, (Below.refl _ w).alloc (Nat.le_refl _) _, by simp⟩
  go_enter Try.func6, Try.ntmps6
  go_wp2_with fail
  refine (awake_any _).mono ?_
  rintro e w1 ⟨rfl, hb1⟩
  have st1 := box.later hb1
  clear box hb1
  obtain ⟨q0, q1, q2, q3, q4, q5⟩ := s_cells st1.blk
  by_cases h1 : 70000 < t.size
  · go_wp2_with fail
    refine (awake_any w1).mono ?_
    rintro e w2 ⟨rfl, hb2⟩
    go_wp2
    go_ret
    exact ⟨rfl, below_tr st1.ext st1.lt hb2⟩
  by_cases h2 : 300 < rs.length
  · go_wp2_with fail
    refine (awake_any w1).mono ?_
    rintro e w2 ⟨rfl, hb2⟩
    go_wp2
    go_ret
    exact ⟨rfl, below_tr st1.ext st1.lt hb2⟩
  have hs1 := hs.below st1.ext
  by_cases hF : RespF E P t.size rs
  · obtain ⟨f1, f2, f3, f4, f5, f6⟩ := hF
    obtain ⟨En, rfl⟩ : ∃ k : Nat, E = k := ⟨E.toNat, by omega⟩
    obtain ⟨Pn, rfl⟩ : ∃ k : Nat, P = k := ⟨P.toNat, by omega⟩
    have hl200 := (runsOk_of f6).2
    have hdec := decR_encR En Pn y t N rs (by omega) (by omega) (by omega) (by omega) hT
    have hlen : (encR En Pn y t N rs).length ≤ 1000000 := by
      have e1 : t.data.toList.length = t.size := by simp
      simp only [encR, List.length_append, be_length, e1, encRuns_length, List.length_singleton]
      omega
    have hdok : (decR (encR En Pn y t N rs)).ok = true := by
      rw [hdec]
      simp only [DecR.ok, f6, Bool.and_true]
      cases y <;> rfl
    have hyy : (((if y then 1 else 0 : Nat) : Int) == 1) = y := by cases y <;> rfl
    have Hdec := Lib.hid hdec
    have Hdok := Lib.hid hdok
    have Hyy := Lib.hid hyy
    have Hlen := Lib.hid hlen
    clear hdec hdok hyy hlen
    go_wp2_with fail
    refine (encodeR_any En Pn N y t rs A c w1 hs1 hT (by omega) (by omega) (by omega) hN f6).mono ?_
    rintro e w2 ⟨A2, c2, rfl, hs2, hb2⟩
    have st2 := st1.later hb2
    clear q0 q1 q2 q3 q4 q5 st1 hb2
    obtain ⟨q0, q1, q2, q3, q4, q5⟩ := s_cells st2.blk
    go_wp2_with fail
    refine (refResp_any En Pn N y t rs A c w2 (hs.below st2.ext) hT (by omega) (by omega) (by omega) hN f6).mono ?_
    rintro e w3 ⟨A3, c3, rfl, hs3, hb3⟩
    have st3 := st2.later hb3
    have hs2' := hs2.below hb3
    clear q0 q1 q2 q3 q4 q5 st2 hb3 hs2
    obtain ⟨q0, q1, q2, q3, q4, q5⟩ := s_cells st3.blk
    generalize encR En Pn y t N rs = L at *
    go_wp2_with fail
    refine (decodeR_any L A2 c2 w3 hs2' Hlen.out).mono ?_
    rintro e w4 ⟨hb4, h⟩
    have h' : ∃ A' c', e = .returned (.tuple #[.agg #[.int .i64 En, .int .i64 Pn, .bool y, .string t, .int .i64 N, .slice A' rs.length c'], .int .i64 0]) ∧ Rs w4 A' c' rs := by
      rcases h with ⟨_, A', c', he, hsW⟩ | ⟨hno, _⟩
      · rw [Hdec.out] at he hsW
        refine ⟨A', c', ?_, hsW⟩
        rw [he]
        simp only [Hyy.out, toI_toU N hN]
      · rw [Hdok.out] at hno
        cases hno
    obtain ⟨A', c', rfl, hsW⟩ := h'
    have st4 := (st3.later hb4).alloc (.cells #[.int .i64 En, .int .i64 Pn, .bool y, .string t, .int .i64 N, .slice A' rs.length c'] 38)
    have hsW' := hsW.alloc (.cells #[.int .i64 En, .int .i64 Pn, .bool y, .string t, .int .i64 N, .slice A' rs.length c'] 38)
    have k1 := sl_string ((hs2'.below hb4).alloc (.cells #[.int .i64 En, .int .i64 Pn, .bool y, .string t, .int .i64 N, .slice A' rs.length c'] 38))
    have k2 := sl_string ((hs3.below hb4).alloc (.cells #[.int .i64 En, .int .i64 Pn, .bool y, .string t, .int .i64 N, .slice A' rs.length c'] 38))
    clear q0 q1 q2 q3 q4 q5 st3 h hb4
    obtain ⟨q0, q1, q2, q3, q4, q5⟩ := s_cells st4.blk
    go_wp2_with fail
    refine (sameResp_any En Pn N y t rs A' A c' c _ hsW' (hs.below st4.ext)).mono ?_
    rintro e w5 ⟨rfl, hb5⟩
    have st5 := st4.later hb5
    go_wp2
    go_ret
    exact ⟨rfl, st5.ext⟩
  · go_wp2_with fail
    refine (encodeR_bad E P N y t rs A c w1 hs1 hT hF).mono ?_
    rintro e w2 ⟨rfl, hb2⟩
    have st2 := st1.later hb2
    clear q0 q1 q2 q3 q4 q5 st1 hb2
    obtain ⟨q0, q1, q2, q3, q4, q5⟩ := s_cells st2.blk
    go_wp2_with fail
    refine (refResp_bad E P N y t rs A c w2 (hs.below st2.ext) hT hF).mono ?_
    rintro e w3 ⟨rfl, hb3⟩
    have st3 := st2.later hb3
    clear q0 q1 q2 q3 q4 q5 st2 hb3
    go_wp2
    go_ret
    exact ⟨rfl, st3.ext⟩
end Go.Proofs.Ytdepbaoechnekaa
