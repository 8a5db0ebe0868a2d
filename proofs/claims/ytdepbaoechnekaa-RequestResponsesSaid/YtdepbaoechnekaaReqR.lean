/- The walks of the reference's writer. -/
import Derived.Test.YtdepbaoechnekaaProg
import Derived.Test.YtdepbaoechnekaaK1
import Derived.Test.YtdepbaoechnekaaReqW
import Derived.Test.YtdepbaoechnekaaReqO
import Derived.Test.YtdepbaoechnekaaReqE
import Derived.WalkKit
import Derived.LoopTactic
import Derived.Deep.OwnRows
import Derived.BigQuiet
import Derived.Deep.QuietTactic
import Derived.WalkSpells
import Derived.Outline
namespace Go.Proofs.Ytdepbaoechnekaa
open Go.RowKit

theorem be_get (n k j : Nat) (h : j < k) : (be n k).getD j 0 = UInt8.ofNat (n / 256 ^ (k - 1 - j)) := by
  induction k generalizing j with
  | zero => omega
  | succ k ih =>
    cases j with
    | zero => simp [be]
    | succ j =>
      have := ih j (by omega)
      rw [show k + 1 - 1 - (j + 1) = k - 1 - j by omega, ← this]
      simp [be]
theorem ow_of_row {w : World} {b base : Nat} {e : TypeId} {xs : List Value} {f : Nat → Value} (h : w.rowIs b e xs.length f) (hb : base ≤ b) (hf : ∀ j (hj : j < xs.length), f j = xs[j]) (hm : xs.length ≤ 1000000) :
    Ow w base e (.slice (some ⟨b, 0, none⟩) xs.length xs.length) xs := by
  obtain ⟨c, hc, hn, hcell⟩ := h
  refine ⟨by simp, .inr ⟨b, xs.length, c, rfl, hb, hc, Nat.le_refl _, by unfold maxLen; omega, by simpa using hn, ?_⟩⟩
  rw [List.take_of_length_le (by simp; omega)]
  apply List.ext_getElem?
  intro j
  by_cases hj : j < xs.length
  · rw [List.getElem?_eq_getElem hj, ← hf j hj, ← hcell j hj]
    simp
  · rw [List.getElem?_eq_none (by simp; omega), List.getElem?_eq_none (by omega)]

theorem ref_cast (n d : Nat) : (n : Int) / 256 ^ d = ((n / 256 ^ d : Nat) : Int) := by simp
theorem ref_byte (n d : Nat) : ((n : Int) / 256 ^ d).tmod 256 % 256 = ((UInt8.ofNat (n / 256 ^ d)).toNat : Int) := by
  rw [ref_cast]
  generalize n / 256 ^ d = x
  rw [UInt8.toNat_ofNat', Int.tmod_eq_emod_of_nonneg (by omega)]
  omega
theorem ref_div (n d : Nat) (hn : n < 18446744073709551616) : IntKind.u64.wrap (((n : Int) / 256 ^ d).tdiv 256) = ((n / 256 ^ (d + 1) : Nat) : Int) := by
  have := Nat.div_le_self n (256 ^ d)
  rw [ref_cast, Nat.pow_succ, ← Nat.div_div_eq_div_mul]
  generalize n / 256 ^ d = x at this ⊢
  rw [Int.tdiv_eq_ediv_of_nonneg (by omega), IntKind.wrap_u64]
  omega

set_option maxHeartbeats 400000 in
theorem ref_number_any (n size : Nat) (w : World) (hn : n < 18446744073709551616) (h2 : size ≤ 8) :
    Calls Try.prog 20 #[.int .u64 (n : Int), .int .i64 (size : Int)] w fun e w' =>
      ∃ v, e = .returned v ∧ Ow w' w.heap.size 5 v (byc (be n size)) ∧ Below w.heap.size w w' := by
  have hmk := fun (w : World) => run_make_row' (P := Try.prog) 22 5 (.int .u8 0) 1 Try.underlying22 info8 rfl .i64 .i64 size (by omega) (by omega) w
  go_enter Try.func20, Try.ntmps20
  go_wp2
  go_loopw [0, 6] (fun m i wr => ∃ k : Nat, k ≤ size ∧ i = .int .i64 ((k : Int) - 1) ∧ m = .int .u64 ((n / 256 ^ (size - k) : Nat) : Int) ∧
      wr.rowIs w.heap.size 5 size (fun j => if j < k then .int .u8 0 else .int .u8 (((be n size).getD j 0).toNat : Int)) ∧ Below w.heap.size w wr) (fun m i _ => (intOf i + 1).toNat)
  case atStart =>
    refine ⟨size, Nat.le_refl _, rfl, by simp, ?_, (Below.refl _ w).alloc (Nat.le_refl _) _⟩
    exact (World.rowIs_made w _ _ _).congr fun j hj => by simp [hj]
  case round =>
    obtain ⟨k, hk, rfl, rfl, hrow, hb⟩ := hrel
    by_cases hlt : 0 < k
    · have hcell := hrow.cell (i := k - 1) (by omega)
      have hfz := hrow.frozen (k - 1)
      have hq : (n / 256 ^ (size - k) : Nat) < 18446744073709551616 := Nat.lt_of_le_of_lt (Nat.div_le_self _ _) hn
      go_wp2
      have e1 := ref_byte n (size - k)
      have e2 := ref_div n (size - k) hn
      refine ⟨⟨k - 1, by omega, by go_num, ?_, ?_, ?_⟩, by simp [intOf]; omega⟩
      · rw [e2, show size - (k - 1) = size - k + 1 by omega]
      · rw [e1]
        refine (hrow.set (k - 1) _).congr fun j hj => ?_
        by_cases hjk : j = k - 1
        · subst hjk
          rw [if_pos rfl, if_neg (by omega), be_get n size (k - 1) hj, show size - 1 - (k - 1) = size - k by omega]
        · rw [if_neg hjk]
          by_cases h1 : j < k
          · rw [if_pos h1, if_pos (by omega)]
          · rw [if_neg h1, if_neg (by omega)]
      · exact hb.setCell (Nat.le_refl _) _
    · obtain rfl : k = 0 := by omega
      go_wp2
      go_ret
      refine ⟨_, rfl, ?_, hb⟩
      have hlen : (byc (be n size)).length = size := by rw [byc_length, be_length]
      have := ow_of_row (base := w.heap.size) (xs := byc (be n size)) (by rw [hlen]; exact hrow) (Nat.le_refl _) (fun j hj => by rw [byc_get]; simp) (by omega)
      rw [hlen] at this
      exact this

theorem ref_text_any (s : ByteArray) (w : World) (hs : s.size ≤ 70000) :
    Calls Try.prog 19 #[.string s] w fun e w' =>
      ∃ v, e = .returned v ∧ Ow w' w.heap.size 5 v (byc (be s.size 2 ++ s.data.toList)) ∧ Below w.heap.size w w' := by
  obtain ⟨i0, hi, hz0, hz1, hz2⟩ := info_parts info8
  go_enter Try.func19, Try.ntmps19
  go_wp2_with fail
  refine (ref_number_any s.size 2 w (by omega) (by omega)).mono ?_
  rintro e w1 ⟨v, rfl, hown, hb⟩
  have hcl : Lib.strCells s = byc s.data.toList := rfl
  have hbs := hb.size
  go_wp2_with (at_builtin; refine Lib.wpList_append_own_string w1 rfl _ _ 22 9 rfl w.heap.size 5 i0 Try.underlying22 Try.underlying9 hi hz0 hz1 hz2 v _ _ rfl hown s rfl ?h1 ?h2 (by omega) ?_)
  case h1 => rw [byc_length, be_length]; unfold maxLen; omega
  case h2 => rw [byc_length, be_length]; omega
  intro v' w2 hown' hgr hnil
  have hown2 : Ow w2 w.heap.size 5 v' (byc (be s.size 2 ++ s.data.toList)) := by
    rw [byc_append _ s.data.toList]
    refine ow_of hown' ?_
    rw [List.length_append, byc_length s.data.toList]
    simp
  go_wp2
  go_ret
  exact ⟨v', rfl, hown2, hb.grown hgr (by omega) (fun j e => (hown.lt j e).1)⟩
theorem Ow.below {w w' : World} {base : Nat} {e : TypeId} {v : Value} {xs : List Value} (h : Ow w base e v xs) (hb : Below w.heap.size w w') : Ow w' base e v xs := by
  refine h.kept (row := none) ⟨hb.os, hb.tape, hb.output, hb.size, fun k hk _ => hb.block k hk⟩ ?_
  by_cases hv : v.ownBlock = none
  · exact .inl hv
  · exact .inr hv
namespace EncSt
variable {w wi wj : World} {q g : Nat} {cs : Array Value}
theorem later (h : EncSt w q cs wi) (hb : Below wi.heap.size wi wj) : EncSt w q cs wj := h.next hb (blk_lt h.blk) h.lt
theorem grown (h : EncSt w q cs wi) {row : Option Nat} (hg : wi.grownBy wj row) (hr : ∀ k, row = some k → q + 1 ≤ k ∧ k < wi.heap.size) (hq : w.heap.size ≤ q := by omega) : EncSt w q cs wj :=
  ⟨blk_grown h.blk hg (fun e => by have := hr q e; omega), h.ext.grown hg h.lt (fun k e => by have := hr k e; omega), by have := hg.size; have := h.lt; omega⟩
end EncSt
theorem be_one (k : Nat) (hk : k < 256) : byc (be k 1) = [.int .u8 (k : Int)] := by
  simp only [be, byc, List.map_cons, List.map_nil, UInt8.toNat_ofNat', Nat.pow_zero, Nat.div_one]
  rw [Nat.mod_eq_of_lt (by omega)]

set_option maxHeartbeats 1000000 in
theorem ref_request_any (K N : Int) (a b : ByteArray) (W : List UInt8) (A : Option Addr) (c : Nat) (w : World) (hs : Sl w A c (byc W)) (hf : formB K a.size b.size W.length N = true) :
    Calls Try.prog 9 #[.agg #[.int .i64 K, .string a, .string b, .slice A W.length c, .int .i64 N]] w fun e w' =>
      ∃ A' c', e = .returned (.tuple #[.slice A' (enc K a b W N).length c', .bool true]) ∧ Sl w' A' c' (byc (enc K a b W N)) ∧ Below w.heap.size w w' := by
  obtain ⟨h1, h2, h3, h4, h5, h6, h7⟩ := formB_true hf
  obtain ⟨k, rfl⟩ : ∃ k : Nat, K = k := ⟨K.toNat, by omega⟩
  obtain ⟨m, rfl⟩ : ∃ m : Nat, N = m := ⟨N.toNat, by omega⟩
  obtain ⟨i0, hi, hz0, hz1, hz2⟩ := info_parts info8
  have box : EncSt w w.heap.size #[.int .i64 k, .string a, .string b, .slice A W.length c, .int .i64 m] (w.alloc (.cells #[.int .i64 k, .string a, .string b, .slice A W.length c, .int .i64 m] 24)) :=
    ⟨heap_alloc_new w _, (Below.refl _ w).alloc (Nat.le_refl _) _, by simp⟩
  have st1 := box.alloc (.cells #[.int .u8 (k : Int)] 5)
  have how1 : Ow ((w.alloc (.cells #[.int .i64 k, .string a, .string b, .slice A W.length c, .int .i64 m] 24)).alloc (.cells #[.int .u8 (k : Int)] 5)) (w.heap.size + 1) 5 (.slice (some ⟨w.heap.size + 1, 0, none⟩) 1 1) (byc (be k 1)) := by
    have := World.ownsRow_lit (base := w.heap.size + 1) (e := 5) (size := 1) (w.alloc (.cells #[.int .i64 k, .string a, .string b, .slice A W.length c, .int .i64 m] 24)) #[.int .u8 (k : Int)] 1 (by simp) (by unfold maxLen; omega) rfl
    rw [be_one k (by omega)]
    simpa [Ow] using this
  have e1 : a.data.toList.length = a.size := by simp
  have e2 : b.data.toList.length = b.size := by simp
  have e3 : (ByteArray.mk W.toArray).size = W.length := by simp [ByteArray.size]
  clear box
  go_enter Try.func9, Try.ntmps9
  obtain ⟨q0, q1, q2, q3, q4⟩ := q_cells st1.blk
  go_wp2_with fail
  refine (ref_text_any a _ (by omega)).mono ?_
  rintro e w2 ⟨x, rfl, hox, hb2⟩
  have st := st1.later hb2
  have how := how1.below hb2
  clear st1 how1 hb2 q0 q1 q2 q3 q4
  obtain ⟨X, cx, rfl, hsx, hbx⟩ := hox.sl
  clear hbx
  go_wp2_with (at_builtin; refine wpList_append_sl w2 rfl _ _ 22 rfl (w.heap.size + 1) 5 i0 (.int .u8 0) 1 Try.underlying22 hi hz0 hz1 hz2 rfl (.slice (some ⟨w.heap.size + 1, 0, none⟩) 1 1) (byc (be k 1)) rfl how X cx (byc (be a.size 2 ++ a.data.toList)) rfl hsx (byc_one _) ?h1 (by omega) ?h2 ?_)
  case h1 => simp only [byc_length, List.length_append, be_length, e1, e2, e3]; omega
  case h2 => have := st.lt; have := blk_lt st.blk; omega
  intro v1x w1x how3 hgr3 hbv3
  have st1 := st.grown hgr3 (how.lt)
  rw [← byc_append] at how3
  have how1 := how3
  clear st how how3 hgr3 hbv3 hox hsx
  obtain ⟨q0, q1, q2, q3, q4⟩ := q_cells st1.blk
  go_wp2_with fail
  refine (ref_text_any b _ (by omega)).mono ?_
  rintro e w2 ⟨x, rfl, hox, hb2⟩
  have st := st1.later hb2
  have how := how1.below hb2
  clear st1 how1 hb2 q0 q1 q2 q3 q4
  obtain ⟨X, cx, rfl, hsx, hbx⟩ := hox.sl
  clear hbx
  go_wp2_with (at_builtin; refine wpList_append_sl w2 rfl _ _ 22 rfl (w.heap.size + 1) 5 i0 (.int .u8 0) 1 Try.underlying22 hi hz0 hz1 hz2 rfl v1x (byc (be k 1 ++ (be a.size 2 ++ a.data.toList))) rfl how X cx (byc (be b.size 2 ++ b.data.toList)) rfl hsx (byc_one _) ?h1 (by omega) ?h2 ?_)
  case h1 => simp only [byc_length, List.length_append, be_length, e1, e2, e3]; omega
  case h2 => have := st.lt; have := blk_lt st.blk; omega
  intro v2x w2x how3 hgr3 hbv3
  have st1 := st.grown hgr3 (how.lt)
  rw [← byc_append] at how3
  have how1 := how3
  clear st how how3 hgr3 hbv3 hox hsx
  obtain ⟨q0, q1, q2, q3, q4⟩ := q_cells st1.blk
  have hstr := sl_string (hs.below st1.ext)
  go_wp2_with fail
  refine (ref_text_any (ByteArray.mk W.toArray) _ (by omega)).mono ?_
  rintro e w2 ⟨x, rfl, hox, hb2⟩
  have st := st1.later hb2
  have how := how1.below hb2
  clear st1 how1 hb2 q0 q1 q2 q3 q4 hstr
  rw [e3] at hox
  obtain ⟨X, cx, rfl, hsx, hbx⟩ := hox.sl
  clear hbx
  go_wp2_with (at_builtin; refine wpList_append_sl w2 rfl _ _ 22 rfl (w.heap.size + 1) 5 i0 (.int .u8 0) 1 Try.underlying22 hi hz0 hz1 hz2 rfl v2x (byc (be k 1 ++ (be a.size 2 ++ a.data.toList) ++ (be b.size 2 ++ b.data.toList))) rfl how X cx (byc (be W.length 2 ++ W)) rfl hsx (byc_one _) ?h1 (by omega) ?h2 ?_)
  case h1 => simp only [byc_length, List.length_append, be_length, e1, e2, e3]; omega
  case h2 => have := st.lt; have := blk_lt st.blk; omega
  intro v3x w3x how3 hgr3 hbv3
  have st1 := st.grown hgr3 (how.lt)
  rw [← byc_append] at how3
  have how1 := how3
  clear st how how3 hgr3 hbv3 hox hsx
  obtain ⟨q0, q1, q2, q3, q4⟩ := q_cells st1.blk
  go_wp2_with fail
  refine (ref_number_any m 4 _ (by omega) (by omega)).mono ?_
  rintro e w2 ⟨x, rfl, hox, hb2⟩
  have st := st1.later hb2
  have how := how1.below hb2
  clear st1 how1 hb2 q0 q1 q2 q3 q4
  obtain ⟨X, cx, rfl, hsx, hbx⟩ := hox.sl
  clear hbx
  go_wp2_with (at_builtin; refine wpList_append_sl w2 rfl _ _ 22 rfl (w.heap.size + 1) 5 i0 (.int .u8 0) 1 Try.underlying22 hi hz0 hz1 hz2 rfl v3x (byc (be k 1 ++ (be a.size 2 ++ a.data.toList) ++ (be b.size 2 ++ b.data.toList) ++ (be W.length 2 ++ W))) rfl how X cx (byc (be m 4)) rfl hsx (byc_one _) ?h1 (by omega) ?h2 ?_)
  case h1 => simp only [byc_length, List.length_append, be_length, e1, e2, e3]; omega
  case h2 => have := st.lt; have := blk_lt st.blk; omega
  intro v4x w4x how3 hgr3 hbv3
  have st1 := st.grown hgr3 (how.lt)
  rw [← byc_append] at how3
  have how4 : Ow w4x (w.heap.size + 1) 5 v4x (byc (enc k a b W m)) := by simpa only [enc, List.append_assoc, List.nil_append, Int.toNat_natCast, List.cons_append] using how3
  clear st how hgr3 hbv3 hox hsx how3
  obtain ⟨A', c', rfl, hsl, hbk⟩ := how4.sl
  go_wp2
  go_ret2
  exact ⟨A', c', by rw [← byc_length (enc k a b W m)]; rfl, hsl, st1.ext⟩

theorem ref_request_bad (K N : Int) (a b : ByteArray) (l : Nat) (A : Option Addr) (c : Nat) (w : World) (hf : formB K a.size b.size l N = false) :
    Calls Try.prog 9 #[.agg #[.int .i64 K, .string a, .string b, .slice A l c, .int .i64 N]] w fun e w' =>
      e = .returned (.tuple #[.slice none 0 0, .bool false]) ∧ Below w.heap.size w w' := by
  have hbl : ∀ o, Below w.heap.size w (w.alloc o) := fun o => (Below.refl _ w).alloc (Nat.le_refl _) o
  have hf' : K < 1 ∨ 8 < K ∨ 1000 < a.size ∨ 1000 < b.size ∨ 2000 < l ∨ N < 0 ∨ 2147483647 < N := by
    simp only [formB, decide_eq_false_iff_not] at hf
    omega
  clear hf
  go_enter Try.func9, Try.ntmps9
  by_cases h0 : K < 1
  · clear hf'
    go_wp2
    go_ret2
    exact ⟨rfl, hbl _⟩
  by_cases h1 : 8 < K
  · clear hf'
    go_wp2
    go_ret2
    exact ⟨rfl, hbl _⟩
  by_cases h2 : 1000 < a.size
  · clear hf'
    go_wp2
    go_ret2
    exact ⟨rfl, hbl _⟩
  by_cases h3 : 1000 < b.size
  · clear hf'
    go_wp2
    go_ret2
    exact ⟨rfl, hbl _⟩
  by_cases h4 : 2000 < l
  · clear hf'
    go_wp2
    go_ret2
    exact ⟨rfl, hbl _⟩
  by_cases h5 : N < 0
  · clear hf'
    go_wp2
    go_ret2
    exact ⟨rfl, hbl _⟩
  have h7 : 2147483647 < N := by omega
  clear hf'
  go_wp2
  go_ret2
  exact ⟨rfl, hbl _⟩
end Go.Proofs.Ytdepbaoechnekaa
