/- The walks of the statements RequestReads and RequestWrites. -/
import Derived.Test.YtdepbaoechnekaaReqS
namespace Go.Proofs.Ytdepbaoechnekaa
open Go.RowKit

theorem below_tr {B : Nat} {a b c : World} (h : Below B a b) (hB : B ≤ b.heap.size) (k : Below b.heap.size b c) : Below B a c := h.trans (k.mono hB)

set_option maxHeartbeats 1000000 in
theorem reads_any (l : List UInt8) (A : Option Addr) (c : Nat) (w : World) (hs : Sl w A c (byc l)) :
    Calls Try.prog 4 #[.slice A l.length c] w fun e w' => e = .returned (.bool true) ∧ Below w.heap.size w w' := by
  have hcap := hs.cap
  have hmax := hs.max
  rw [byc_length] at hcap
  go_enter Try.func4, Try.ntmps4
  go_wp2_with fail
  refine (awake_any w).mono ?_
  rintro e w1 ⟨rfl, hb1⟩
  by_cases hlen : 6000 < l.length
  · go_wp2_with fail
    refine (awake_any w1).mono ?_
    rintro e w2 ⟨rfl, hb2⟩
    go_wp2
    go_ret
    exact ⟨rfl, below_tr hb1 hb1.size hb2⟩
  · have hs1 := hs.below hb1
    go_wp2_with fail
    refine (decode_any l A c w1 hs1 (by omega)).mono ?_
    rintro e w2 ⟨hb2, h⟩
    have hbb := below_tr hb1 hb1.size hb2
    have hs2 := hs1.below hb2
    rcases h with ⟨hok, A', c', rfl, hsW⟩ | ⟨hok, rfl⟩
    · have henc := enc_dec l hok
      have hf : formB (dec l).K (ByteArray.mk (dec l).a.toArray).size (ByteArray.mk (dec l).b.toArray).size (dec l).W.length (dec l).N = true := by
        simp only [Dec.ok, Bool.and_eq_true] at hok
        rw [bsize, bsize]
        exact hok.2
      generalize dec l = d at henc hf hsW hok ⊢
      obtain ⟨k, a, b, W, m, p⟩ := d
      clear hok
      dsimp only at henc hf hsW ⊢
      have He := Lib.hid henc
      clear henc
      go_wp2_with fail
      refine (ref_request_any k m ⟨a.toArray⟩ ⟨b.toArray⟩ W A' c' _ (hsW.alloc _) hf).mono ?_
      rintro e w3 ⟨A3, c3, rfl, hs3, hb3⟩
      have hs2' := (hs2.alloc _).below hb3
      rw [He.out] at hs3 ⊢
      have k1 := sl_string hs3
      have k2 := sl_string hs2'
      go_wp2
      go_ret
      exact ⟨rfl, below_step (hbb.alloc hbb.size _) hb3 (by have := hbb.size; simp; omega)⟩
    · go_wp2_with fail
      refine (same_any 0 0 ⟨#[]⟩ ⟨#[]⟩ [] none none 0 0 _ (Sl.none_ _) (Sl.none_ _)).mono ?_
      rintro e w3 ⟨rfl, hb3⟩
      go_wp2
      go_ret
      exact ⟨rfl, below_step (hbb.alloc hbb.size _) hb3 (by have := hbb.size; simp; omega)⟩
end Go.Proofs.Ytdepbaoechnekaa
