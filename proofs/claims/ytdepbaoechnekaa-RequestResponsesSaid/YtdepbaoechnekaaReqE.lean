/- The walks of package request's Encode. -/
import Derived.Test.YtdepbaoechnekaaProg
import Derived.Test.YtdepbaoechnekaaK1
import Derived.Test.YtdepbaoechnekaaReqW
import Derived.Test.YtdepbaoechnekaaReqO
import Derived.WalkKit
import Derived.LoopTactic
import Derived.Deep.RegionLaw
import Derived.BigQuiet
import Derived.Deep.QuietTactic
import Derived.WalkSpells
import Derived.Outline
namespace Go.Proofs.Ytdepbaoechnekaa
open Go.RowKit

/-- Requests that have bytes. -/
def formB (K : Int) (a b l : Nat) (N : Int) : Bool := decide (1 ≤ K ∧ K ≤ 8 ∧ a ≤ 1000 ∧ b ≤ 1000 ∧ l ≤ 2000 ∧ 0 ≤ N ∧ N ≤ 2147483647)
theorem formB_true {K : Int} {a b l : Nat} {N : Int} (h : formB K a b l N = true) : 1 ≤ K ∧ K ≤ 8 ∧ a ≤ 1000 ∧ b ≤ 1000 ∧ l ≤ 2000 ∧ 0 ≤ N ∧ N ≤ 2147483647 := by simpa [formB] using h

theorem formed_any (K N : Int) (a b : ByteArray) (A : Option Addr) (l c : Nat) (w : World) :
    Calls Try.prog 16 #[.agg #[.int .i64 K, .string a, .string b, .slice A l c, .int .i64 N]] w fun e w' =>
      e = .returned (.bool (formB K a.size b.size l N)) ∧ Below w.heap.size w w' := by
  have hbl : ∀ o, Below w.heap.size w (w.alloc o) := fun o => (Below.refl _ w).alloc (Nat.le_refl _) o
  cases hf : formB K a.size b.size l N with
  | true =>
    obtain ⟨h1, h2, h3, h4, h5, h6, h7⟩ := formB_true hf
    clear hf
    go_enter Try.func16, Try.ntmps16
    go_wp2
    go_ret
    exact ⟨rfl, hbl _⟩
  | false =>
    have hf' : K < 1 ∨ 8 < K ∨ 1000 < a.size ∨ 1000 < b.size ∨ 2000 < l ∨ N < 0 ∨ 2147483647 < N := by
      simp only [formB, decide_eq_false_iff_not] at hf
      omega
    clear hf
    go_enter Try.func16, Try.ntmps16
    by_cases h1 : K < 1
    · clear hf'
      go_wp2
      go_ret
      exact ⟨rfl, hbl _⟩
    by_cases h2 : 8 < K
    · clear hf'
      go_wp2
      go_ret
      exact ⟨rfl, hbl _⟩
    by_cases h3 : 1000 < a.size
    · clear hf'
      go_wp2
      go_ret
      exact ⟨rfl, hbl _⟩
    by_cases h4 : 1000 < b.size
    · clear hf'
      go_wp2
      go_ret
      exact ⟨rfl, hbl _⟩
    by_cases h5 : 2000 < l
    · clear hf'
      go_wp2
      go_ret
      exact ⟨rfl, hbl _⟩
    by_cases h6 : N < 0
    · clear hf'
      go_wp2
      go_ret
      exact ⟨rfl, hbl _⟩
    have h7 : 2147483647 < N := by omega
    clear hf'
    go_wp2
    go_ret
    exact ⟨congrArg (fun x => Ending.returned (.bool x)) (decide_eq_false (by omega)), hbl _⟩

/-- The bytes of a request. -/
def enc (K : Int) (a b : ByteArray) (W : List UInt8) (N : Int) : List UInt8 :=
  [] ++ be K.toNat 1 ++ be a.size 2 ++ a.data.toList ++ be b.size 2 ++ b.data.toList ++ be W.length 2 ++ W ++ be N.toNat 4
theorem q_cells {w : World} {g : Nat} {a b c d e : Value} {t : TypeId} (h : w.heap[g]? = some (.cells #[a, b, c, d, e] t)) :
    w.cell? ⟨g, 0, none⟩ = some a ∧ w.cell? ⟨g, 1, none⟩ = some b ∧ w.cell? ⟨g, 2, none⟩ = some c ∧ w.cell? ⟨g, 3, none⟩ = some d ∧ w.cell? ⟨g, 4, none⟩ = some e :=
  ⟨blk_cell h 0, blk_cell h 1, blk_cell h 2, blk_cell h 3, blk_cell h 4⟩
theorem below_step {B B' : Nat} {a w w' : World} (h : Below B a w) (k : Below B' w w') (hB : B ≤ B') : Below B a w' :=
  ⟨k.os.trans h.os, k.tape.trans h.tape, k.output.trans h.output, Nat.le_trans h.size k.size, fun i hi => (k.block i (by omega)).trans (h.block i hi)⟩

/-- What stands between two calls of a writer: the request's box, all that was there. -/
structure EncSt (w : World) (q : Nat) (cs : Array Value) (wi : World) : Prop where
  blk : wi.heap[q]? = some (.cells cs 24)
  ext : Below w.heap.size w wi
  lt : w.heap.size ≤ wi.heap.size
namespace EncSt
variable {w wi wj : World} {q g : Nat} {cs : Array Value}
theorem next (h : EncSt w q cs wi) (hb : Below g wi wj) (hg : q < g) (hle : w.heap.size ≤ g := by omega) : EncSt w q cs wj :=
  ⟨(hb.block q hg).trans h.blk, below_step h.ext hb hle, by have := hb.size; have := h.lt; omega⟩
theorem alloc (h : EncSt w q cs wi) (o : Obj) : EncSt w q cs (wi.alloc o) := ⟨blk_alloc h.blk o, h.ext.alloc h.lt o, by have := h.lt; simp; omega⟩
end EncSt

set_option maxHeartbeats 1000000 in
theorem encode_any (K N : Int) (a b : ByteArray) (W : List UInt8) (A : Option Addr) (c : Nat) (w : World) (hs : Sl w A c (byc W)) (hf : formB K a.size b.size W.length N = true) :
    Calls Try.prog 8 #[.agg #[.int .i64 K, .string a, .string b, .slice A W.length c, .int .i64 N]] w fun e w' =>
      ∃ A' c', e = .returned (.tuple #[.slice A' (enc K a b W N).length c', .int .i64 0]) ∧ Sl w' A' c' (byc (enc K a b W N)) ∧ Below w.heap.size w w' := by
  obtain ⟨h1, h2, h3, h4, h5, h6, h7⟩ := formB_true hf
  obtain ⟨k, rfl⟩ : ∃ k : Nat, K = k := ⟨K.toNat, by omega⟩
  obtain ⟨m, rfl⟩ : ∃ m : Nat, N = m := ⟨N.toNat, by omega⟩
  have box : EncSt w w.heap.size #[.int .i64 k, .string a, .string b, .slice A W.length c, .int .i64 m] (w.alloc (.cells #[.int .i64 k, .string a, .string b, .slice A W.length c, .int .i64 m] 24)) :=
    ⟨heap_alloc_new w _, (Below.refl _ w).alloc (Nat.le_refl _) _, by simp⟩
  go_enter Try.func8, Try.ntmps8
  go_wp2_with fail
  refine (formed_any k m a b A W.length c _).mono ?_
  rintro e w1 ⟨rfl, hb1⟩
  rw [hf]
  have st1 := (box.next hb1 (by simp) (by simp)).alloc (.cells #[.slice none 0 0] 46)
  obtain ⟨q0, q1, q2, q3, q4⟩ := q_cells st1.blk
  have ho1 : OutIs (w1.alloc (.cells #[.slice none 0 0] 46)) w1.heap.size w1.heap.size [] := ⟨_, heap_alloc_new w1 _, Ow.nil _ _ _⟩
  have hw1 : w.heap.size < w1.heap.size := by have := hb1.size; simp at this; omega
  clear box
  go_wp2_with fail
  refine (out_number_any [] k 1 w1.heap.size w1.heap.size _ ho1 (Nat.le_refl _) (by simp) (by omega) (by omega) (by omega)).mono ?_
  rintro e w2 ⟨rfl, ho2, hb2⟩
  have st2 := st1.next hb2 hw1
  clear q0 q1 q2 q3 q4 st1 hb1 hb2 ho1
  obtain ⟨q0, q1, q2, q3, q4⟩ := q_cells st2.blk
  go_wp2_with fail
  refine (out_text_any _ a w1.heap.size w1.heap.size w2 ho2 (Nat.le_refl _) (by simp [be_length]) (by omega)).mono ?_
  rintro e w3 ⟨rfl, ho3, hb3⟩
  have st3 := st2.next hb3 hw1
  clear q0 q1 q2 q3 q4 st2 hb3 ho2
  obtain ⟨q0, q1, q2, q3, q4⟩ := q_cells st3.blk
  have e1 : a.data.toList.length = a.size := by simp
  have e2 : b.data.toList.length = b.size := by simp
  go_wp2_with fail
  refine (out_text_any _ b w1.heap.size w1.heap.size w3 ho3 (Nat.le_refl _) (by simp only [List.length_append, be_length, e1, e2, List.length_nil]; omega) (by omega)).mono ?_
  rintro e w4 ⟨rfl, ho4, hb4⟩
  have st4 := st3.next hb4 hw1
  clear q0 q1 q2 q3 q4 st3 hb4 ho3
  obtain ⟨q0, q1, q2, q3, q4⟩ := q_cells st4.blk
  have hstr := sl_string (hs.below st4.ext)
  have e3 : (ByteArray.mk W.toArray).size = W.length := by simp [ByteArray.size]
  go_wp2_with fail
  refine (out_text_any _ ⟨W.toArray⟩ w1.heap.size w1.heap.size w4 ho4 (Nat.le_refl _) (by simp only [List.length_append, be_length, e1, e2, List.length_nil]; omega) (by omega)).mono ?_
  rintro e w5 ⟨rfl, ho5, hb5⟩
  have st5 := st4.next hb5 hw1
  clear q0 q1 q2 q3 q4 st4 hb5 ho4 hstr
  obtain ⟨q0, q1, q2, q3, q4⟩ := q_cells st5.blk
  rw [e3] at ho5
  go_wp2_with fail
  refine (out_number_any _ m 4 w1.heap.size w1.heap.size w5 ho5 (Nat.le_refl _) (by simp only [List.length_append, be_length, e1, e2, List.length_nil]; omega) (by omega) (by omega) (by omega)).mono ?_
  rintro e w6 ⟨rfl, ho6, hb6⟩
  have st6 := st5.next hb6 hw1
  clear q0 q1 q2 q3 q4 st5 hb6 ho5
  have henc : enc k a b W m = [] ++ be k 1 ++ be a.size 2 ++ a.data.toList ++ be b.size 2 ++ b.data.toList ++ be W.length 2 ++ W ++ be m 4 := rfl
  have ho : OutIs w6 w1.heap.size w1.heap.size (enc k a b W m) := by rw [henc]; exact ho6
  clear ho6
  have He := Lib.hid henc
  clear henc
  obtain ⟨v, hblk, hown⟩ := ho
  obtain ⟨A', c', rfl, hsl, hbk⟩ := hown.sl
  have c0 := blk_cell hblk 0
  rw [byc_length] at c0
  go_wp2
  go_ret2
  exact ⟨A', c', rfl, hsl, st6.ext⟩

theorem encode_bad (K N : Int) (a b : ByteArray) (l : Nat) (A : Option Addr) (c : Nat) (w : World) (hf : formB K a.size b.size l N = false) :
    Calls Try.prog 8 #[.agg #[.int .i64 K, .string a, .string b, .slice A l c, .int .i64 N]] w fun e w' =>
      e = .returned (.tuple #[.slice none 0 0, .int .i64 1]) ∧ Below w.heap.size w w' := by
  go_enter Try.func8, Try.ntmps8
  go_wp2_with fail
  refine (formed_any K N a b A l c _).mono ?_
  rintro e w1 ⟨rfl, hb1⟩
  rw [hf]
  go_wp2
  go_ret2
  exact ⟨rfl, below_step ((Below.refl _ w).alloc (Nat.le_refl _) _) hb1 (by simp)⟩
end Go.Proofs.Ytdepbaoechnekaa
