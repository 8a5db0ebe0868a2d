/- The walk of the statement RequestWrites. -/
import Derived.Test.YtdepbaoechnekaaLaw19a
namespace Go.Proofs.Ytdepbaoechnekaa
open Go.RowKit

set_option maxHeartbeats 2000000 in
theorem writes_any (K N : Int) (a b : ByteArray) (W : List UInt8) (A : Option Addr) (c : Nat) (w : World) (hs : Sl w A c (byc W)) (ha : a.size ≤ 9223372036854775807) (hb : b.size ≤ 9223372036854775807) :
    Calls Try.prog 3 #[.agg #[.int .i64 K, .string a, .string b, .slice A W.length c, .int .i64 N]] w fun e w' => e = .returned (.bool true) ∧ Below w.heap.size w w' := by
  have hcap := hs.cap
  have hmax := hs.max
  rw [byc_length] at hcap
  have box : EncSt w w.heap.size #[.int .i64 K, .string a, .string b, .slice A W.length c, .int .i64 N] (w.alloc (.cells #[.int .i64 K, .string a, .string b, .slice A W.length c, .int .i64 N] 24)) :=
    ⟨heap_alloc_new w _, (Below.refl _ w).alloc (Nat.le_refl _) _, by simp⟩
  go_enter Try.func3, Try.ntmps3
  go_wp2_with fail
  refine (awake_any _).mono ?_
  rintro e w1 ⟨rfl, hb1⟩
  have st1 := box.later hb1
  clear box hb1
  obtain ⟨q0, q1, q2, q3, q4⟩ := q_cells st1.blk
  by_cases hbig : 3000 < a.size ∨ 3000 < b.size ∨ 3000 < W.length
  · have fin : ∀ w2, Below w1.heap.size w1 w2 → Below w.heap.size w w2 := fun w2 hb => below_tr st1.ext st1.lt hb
    by_cases h1 : 3000 < a.size
    · clear hbig
      go_wp2_with fail
      refine (awake_any w1).mono ?_
      rintro e w2 ⟨rfl, hb2⟩
      go_wp2
      go_ret
      exact ⟨rfl, fin _ hb2⟩
    · by_cases h2 : 3000 < b.size
      · clear hbig
        go_wp2_with fail
        refine (awake_any w1).mono ?_
        rintro e w2 ⟨rfl, hb2⟩
        go_wp2
        go_ret
        exact ⟨rfl, fin _ hb2⟩
      · have h3 : 3000 < W.length := by omega
        clear hbig
        go_wp2_with fail
        refine (awake_any w1).mono ?_
        rintro e w2 ⟨rfl, hb2⟩
        go_wp2
        go_ret
        exact ⟨rfl, fin _ hb2⟩
  · have h1 : ¬ 3000 < a.size := by omega
    have h2 : ¬ 3000 < b.size := by omega
    have h3 : ¬ 3000 < W.length := by omega
    clear hbig
    have hs1 := hs.below st1.ext
    cases hf : formB K a.size b.size W.length N with
    | false =>
      go_wp2_with fail
      refine (encode_bad K N a b W.length A c w1 hf).mono ?_
      rintro e w2 ⟨rfl, hb2⟩
      have st2 := st1.later hb2
      clear q0 q1 q2 q3 q4 st1 hb2
      obtain ⟨q0, q1, q2, q3, q4⟩ := q_cells st2.blk
      go_wp2_with fail
      refine (ref_request_bad K N a b W.length A c w2 hf).mono ?_
      rintro e w3 ⟨rfl, hb3⟩
      have st3 := st2.later hb3
      clear q0 q1 q2 q3 q4 st2 hb3
      go_wp2
      go_ret
      exact ⟨rfl, st3.ext⟩
    | true =>
      have henc := dec_enc K a b W N hf
      have hform := formB_true hf
      have hKN : ((K.toNat : Nat) : Int) = K ∧ ((N.toNat : Nat) : Int) = N := by omega
      have hlen : (enc K a b W N).length ≤ 1000000 := by
        have e1 : a.data.toList.length = a.size := by simp
        have e2 : b.data.toList.length = b.size := by simp
        simp only [enc, List.length_append, be_length, e1, e2, List.length_nil]
        omega
      have hdok : (dec (enc K a b W N)).ok = true := by
        have e1 : a.data.toList.length = a.size := by simp
        have e2 : b.data.toList.length = b.size := by simp
        rw [henc]
        simp only [Dec.ok, hKN.1, hKN.2, e1, e2, hf]
        rfl
      go_wp2_with fail
      refine (encode_any K N a b W A c w1 hs1 hf).mono ?_
      rintro e w2 ⟨A2, c2, rfl, hs2, hb2⟩
      have st2 := st1.later hb2
      clear q0 q1 q2 q3 q4 st1 hb2
      obtain ⟨q0, q1, q2, q3, q4⟩ := q_cells st2.blk
      go_wp2_with fail
      refine (ref_request_any K N a b W A c w2 (hs.below st2.ext) hf).mono ?_
      rintro e w3 ⟨A3, c3, rfl, hs3, hb3⟩
      have st3 := st2.later hb3
      have hs2' := hs2.below hb3
      clear q0 q1 q2 q3 q4 st2 hb3 hs2
      obtain ⟨q0, q1, q2, q3, q4⟩ := q_cells st3.blk
      generalize enc K a b W N = L at *
      go_wp2_with fail
      refine (decode_any L A2 c2 w3 hs2' hlen).mono ?_
      rintro e w4 ⟨hb4, h⟩
      have h' : ∃ A' c', e = .returned (.tuple #[.agg #[.int .i64 K, .string a, .string b, .slice A' W.length c', .int .i64 N], .int .i64 0]) ∧ Sl w4 A' c' (byc W) := by
        rcases h with ⟨_, A', c', he, hsW⟩ | ⟨hno, _⟩
        · rw [henc] at he hsW
          refine ⟨A', c', ?_, hsW⟩
          rw [he, hKN.1, hKN.2]
        · rw [hdok] at hno
          cases hno
      obtain ⟨A', c', rfl, hsW⟩ := h'
      have st4 := (st3.later hb4).alloc (.cells #[.int .i64 K, .string a, .string b, .slice A' W.length c', .int .i64 N] 24)
      have hsW' := hsW.alloc (.cells #[.int .i64 K, .string a, .string b, .slice A' W.length c', .int .i64 N] 24)
      have k1 := sl_string ((hs2'.below hb4).alloc (.cells #[.int .i64 K, .string a, .string b, .slice A' W.length c', .int .i64 N] 24))
      have k2 := sl_string ((hs3.below hb4).alloc (.cells #[.int .i64 K, .string a, .string b, .slice A' W.length c', .int .i64 N] 24))
      clear q0 q1 q2 q3 q4 st3 h hb4
      obtain ⟨q0, q1, q2, q3, q4⟩ := q_cells st4.blk
      go_wp2_with fail
      refine (same_any K N a b W A' A c' c _ hsW' (hs.below st4.ext)).mono ?_
      rintro e w5 ⟨rfl, hb5⟩
      have st5 := st4.later hb5
      go_wp2
      go_ret
      exact ⟨rfl, st5.ext⟩
end Go.Proofs.Ytdepbaoechnekaa
