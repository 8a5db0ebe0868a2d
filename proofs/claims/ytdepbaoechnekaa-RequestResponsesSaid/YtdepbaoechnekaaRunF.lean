/- The walk of package request's EncodeResponse. -/
import Derived.Test.YtdepbaoechnekaaRunR
import Derived.Test.YtdepbaoechnekaaRunS
namespace Go.Proofs.Ytdepbaoechnekaa
open Go.RowKit

theorem out_text_big (l : List UInt8) (s : ByteArray) (g base : Nat) (w : World) (hout : OutIs w g base l) (hg : base ≤ g) (hl : l.length ≤ 900000) (hs : s.size ≤ 70000) :
    Calls Try.prog 18 #[.pointer (some ⟨g, 0, none⟩), .string s] w fun e w' =>
      e = .returned (.tuple #[]) ∧ OutIs w' g base (l ++ be s.size 2 ++ s.data.toList) ∧ Below base w w' := by
  obtain ⟨i0, hi, hz0, hz1, hz2⟩ := info_parts info8
  go_enter Try.func18, Try.ntmps18
  go_wp2_with fail
  refine (out_number_any l s.size 2 g base w hout hg (by omega) (by omega) (by omega) (by omega)).mono ?_
  rintro e w1 ⟨rfl, ⟨v, hblk, hown⟩, hb⟩
  have hcl : Lib.strCells s = byc s.data.toList := rfl
  have c0 := blk_cell hblk 0
  have f0 := blk_frozen hblk 0
  have hgl := blk_lt hblk
  go_wp2_with (at_builtin; refine Lib.wpList_append_own_string w1 rfl _ _ 22 9 rfl base 5 i0 Try.underlying22 Try.underlying9 hi hz0 hz1 hz2 v _ _ rfl hown s rfl ?h1 ?h2 (by omega) ?_)
  case h1 => rw [byc_length, List.length_append, be_length]; unfold maxLen; omega
  case h2 => rw [byc_length, List.length_append, be_length]; omega
  intro v' w2 hown' hgr hnil
  have hown2 : Ow w2 base 5 v' (byc (l ++ be s.size 2 ++ s.data.toList)) := by
    rw [byc_append _ s.data.toList]
    refine ow_of hown' ?_
    rw [List.length_append, byc_length s.data.toList]
    simp
  have hblk2 := blk_grown hblk hgr (hown.ne_blk hblk (by decide))
  clear hown'
  obtain ⟨L, hL⟩ : ∃ L, L = l ++ be s.size 2 ++ s.data.toList := ⟨_, rfl⟩
  rw [← hL] at hown2
  have HL := Lib.hid hL
  clear hL
  obtain ⟨A', c', hv, hsl', hbk⟩ := hown2.sl
  subst hv
  clear c0 f0
  have c1 := blk_cell hblk2 0
  have f1 := blk_frozen hblk2 0
  go_wp2
  first | go_end0 | (simp only [Exit.inBlock, Exit.then]; refine bodyPost_ret (results_none rfl _ _ _) rfl ?_)
  rw [← HL.out]
  refine ⟨rfl, ⟨_, blk_set hblk2 0 _, ?_⟩, (hb.grown hgr (by omega) (fun j e => (hown.lt j e).1)).setCell hg _⟩
  exact hown2.far (a := ⟨g, 0, none⟩) (hown2.ne_blk hblk2 (by decide)) _

/-- Blocks that are no bytes, but g, are as they were. -/
def KeepT (g : Nat) (w w' : World) : Prop := ∀ k cs tt fr, k ≠ g → tt ≠ 5 → w.heap[k]? = some (.cells cs tt fr) → w'.heap[k]? = some (.cells cs tt fr)
theorem KeepT.refl (g : Nat) (w : World) : KeepT g w w := fun _ _ _ _ _ _ h => h
theorem KeepT.step {g base : Nat} {w wr w' : World} {v : Value} {xs : List Value} {o : Obj} (h : KeepT g w wr) (ho : Ow wr base 5 v xs) (hgr : (wr.alloc o).drew.grownBy w' v.ownBlock) (u : Value) : KeepT g w (w'.setCell ⟨g, 0, none⟩ u) := by
  intro k cs tt fr hk ht hb
  have h1 := h k cs tt fr hk ht hb
  have h2 : v.ownBlock ≠ some k := ho.ne_blk h1 (fun e => ht e.symm)
  exact blk_far (blk_grown (w := (wr.alloc o).drew) (blk_alloc h1 o) hgr h2) (p := ⟨g, 0, none⟩) hk u

set_option maxHeartbeats 400000 in
theorem out_number_k (l : List UInt8) (n size g base : Nat) (w : World) (hout : OutIs w g base l) (hg : base ≤ g) (hl : l.length ≤ 1000000) (hn : n < 18446744073709551616) (h1 : 1 ≤ size) (h2 : size ≤ 8) :
    Calls Try.prog 17 #[.pointer (some ⟨g, 0, none⟩), .int .u64 (n : Int), .int .i64 (size : Int)] w fun e w' =>
      e = .returned (.tuple #[]) ∧ OutIs w' g base (l ++ be n size) ∧ Below base w w' ∧ KeepT g w w' := by
  obtain ⟨i0, hi, hz0, hz1, hz2⟩ := info_parts info8
  go_enter Try.func17, Try.ntmps17
  go_wp2
  go_loopw [6] (fun i wr => ∃ (k : Nat) (pre : List UInt8), k ≤ size ∧ i = .int .i64 (8 * ((k : Int) - 1)) ∧ Hid (pre ++ be n k = be n size) ∧ OutIs wr g base (l ++ pre) ∧ Below base w wr ∧ KeepT g w wr) (fun i _ => (intOf i + 8).toNat)
  case atStart =>
    refine ⟨size, [], Nat.le_refl _, by go_num, rfl, by simpa using hout, Below.refl _ _, KeepT.refl _ _⟩
  case round =>
    obtain ⟨k, pre, hk, rfl, hpre, ⟨v, hblk, hown⟩, hb, hkt⟩ := hrel
    by_cases hlt : 0 < k
    · have hpl : pre.length + k = size := by have := congrArg List.length hpre.out; simpa [be_length] using this
      have c0 := blk_cell hblk 0
      have f0 := blk_frozen hblk 0
      have hgl := blk_lt hblk
      have hsz := hb.size
      have hown2 : ∀ u t, Ow (wr.alloc (.cells #[u] t)).drew base 5 v (byc (l ++ pre)) := fun u t => hown.alloc _
      have hsl2 : ∀ u t, Sl (wr.alloc (.cells #[u] t)).drew (some ⟨wr.heap.size, 0, none⟩) 1 [u] := fun u t => (sl_one wr u t).drew
      have hone : ∀ x : Int, ∀ u ∈ [Value.int .u8 x], u.oneCell' = true := fun x u hu => by rw [List.mem_singleton] at hu; subst hu; rfl
      have hby : ∀ u : Value, ((byc (l ++ pre)).length + [u].length) * 1 ≤ 140737488355328 := fun u => by rw [byc_length, List.length_append]; simp; omega
      have hba : ∀ u t, base ≤ (wr.alloc (.cells #[u] t)).drew.heap.size := fun u t => by show base ≤ (wr.heap.push _).size; rw [Array.size_push]; omega
      have hnext : ∀ u t w', (wr.alloc (.cells #[u] t)).drew.grownBy w' v.ownBlock → w'.heap[g]? = some (.cells #[v] 46) := fun u t w' hg =>
        blk_grown (w := (wr.alloc (.cells #[u] t)).drew) (blk_alloc hblk (.cells #[u] t)) hg (hown.ne_blk hblk (by decide))
      go_wp2
      go_region_law (refine step_append_sl _ rfl (.tmp 18) (.tmp 23) 22 rfl base 5 i0 (.int .u8 0) 1 Try.underlying22 hi hz0 hz1 hz2 rfl v (byc (l ++ pre)) (by simp [Act.eval, Act.put]) (hown2 _ _) (some ⟨wr.heap.size, 0, none⟩) 1 [_] (by simp [Act.eval, Act.put] <;> rfl) (hsl2 _ _) (hone _) (hby _) (by decide) (hba _ _) ?_; intro v' w' hown' hgr hbv; have hblk' := hnext _ _ _ hgr; obtain ⟨A', c', hv, hsl', hbk⟩ := hown'.sl; subst hv; have c1 := blk_cell hblk' 0; have f1 := blk_frozen hblk' 0)
      all_goals go_wp2
      all_goals refine ⟨⟨k - 1, pre ++ [UInt8.ofNat (n / 256 ^ (k - 1))], by omega, by go_num, ?_, ?_, ?_, ?_⟩, by simp [intOf]; omega⟩
      all_goals first
        | exact (be_step n k hlt pre).trans hpre.out
        | exact ((hb.alloc (by omega) _).drew.grown hgr (hba _ _) (fun j e => (hown.lt j e).1)).setCell hg _
        | exact hkt.step hown hgr _
        | skip
      all_goals
        refine ⟨_, blk_set hblk' 0 _, ?_⟩
        rw [← List.append_assoc, byc_append (l ++ pre), show byc [UInt8.ofNat (n / 256 ^ (k - 1))] = [Value.int .u8 (IntKind.u8.wrap ((n : Int) / 2 ^ (8 * ((k : Int) - 1)).toNat))] by rw [be_byte n k hlt]; rfl]
        simp only [List.length_append, List.length_singleton] at hown'
        exact hown'.far (hown'.ne_blk hblk' (by decide)) _
    · obtain rfl : k = 0 := by omega
      go_wp2
      first | go_end0 | (simp only [Exit.inBlock, Exit.then]; refine bodyPost_ret (results_none rfl _ _ _) rfl ?_)
      have := hpre.out
      simp only [be, List.append_nil] at this
      subst this
      exact ⟨rfl, ⟨v, hblk, hown⟩, hb, hkt⟩

set_option maxRecDepth 100000 in
set_option maxHeartbeats 1000000 in
theorem encodeR_any (E Pl : Nat) (N : Int) (y : Bool) (t : ByteArray) (rs : List Rn) (A : Option Addr) (c : Nat) (w : World) (hs : Rs w A c rs) (hT : ∀ i, I64 (rT rs i)) (hE : E < 256) (hP : Pl < 65536) (ht : t.size < 65536) (hN : I64 N) (hF : runsOk rs = true) :
    Calls Try.prog 15 #[.agg #[.int .i64 E, .int .i64 Pl, .bool y, .string t, .int .i64 N, .slice A rs.length c]] w fun e w' =>
      ∃ A' c', e = .returned (.tuple #[.slice A' (encR E Pl y t N rs).length c', .int .i64 0]) ∧ Sl w' A' c' (byc (encR E Pl y t N rs)) ∧ Below w.heap.size w w' := by
  have hlen : rs.length ≤ 200 := (runsOk_of hF).2
  have box : RSt w w.heap.size #[.int .i64 E, .int .i64 Pl, .bool y, .string t, .int .i64 N, .slice A rs.length c] (w.alloc (.cells #[.int .i64 E, .int .i64 Pl, .bool y, .string t, .int .i64 N, .slice A rs.length c] 38)) :=
    ⟨heap_alloc_new w _, (Below.refl _ w).alloc (Nat.le_refl _) _, by simp⟩
  go_enter Try.func15, Try.ntmps15
  go_wp2_with fail
  refine (formedR_any rs hT A c _ (hs.alloc _)).mono ?_
  rintro e w1 ⟨rfl, hb1⟩
  rw [hF]
  have st1 := (box.later hb1).alloc (.cells #[.slice none 0 0] 46)
  have hw1 : w.heap.size < w1.heap.size := blk_lt (box.later hb1).blk
  clear box hb1
  obtain ⟨q0, q1, q2, q3, q4, q5⟩ := s_cells st1.blk
  have ho1 : OutIs (w1.alloc (.cells #[.slice none 0 0] 46)) w1.heap.size w1.heap.size [] := ⟨_, heap_alloc_new w1 _, Ow.nil _ _ _⟩
  obtain ⟨g, hg⟩ : ∃ g, g = w1.heap.size := ⟨_, rfl⟩
  go_wp2_with fail
  refine (out_number_any [] E 1 w1.heap.size w1.heap.size _ ho1 (Nat.le_refl _) (by simp) (by omega) (by omega) (by omega)).mono ?_
  rintro e w2 ⟨rfl, ho2, hb2⟩
  have st2 := st1.next hb2 hw1
  clear q0 q1 q2 q3 q4 q5 st1 hb2 ho1
  obtain ⟨q0, q1, q2, q3, q4, q5⟩ := s_cells st2.blk
  go_wp2_with fail
  refine (out_number_any _ Pl 2 w1.heap.size w1.heap.size w2 ho2 (Nat.le_refl _) (by simp [be_length]) (by omega) (by omega) (by omega)).mono ?_
  rintro e w3 ⟨rfl, ho3, hb3⟩
  have st3 := st2.next hb3 hw1
  clear q0 q1 q2 q3 q4 q5 st2 hb3 ho2
  obtain ⟨q0, q1, q2, q3, q4, q5⟩ := s_cells st3.blk
  go_upto_if 47 with fail
  go_cut [5] (fun v wx => v = .int .u64 ((if y then 1 else 0 : Nat) : Int) ∧ wx = w3)
  case first =>
    cases y
    · go_wp2_with fail
      go_meet
      exact ⟨rfl, rfl⟩
    · go_wp2_with fail
      go_meet
      exact ⟨rfl, rfl⟩
  case rest =>
    obtain ⟨rfl, rfl⟩ := hcut
    obtain ⟨yn, hyn⟩ : ∃ n : Nat, n = (if y then 1 else 0 : Nat) := ⟨_, rfl⟩
    have hyb : yn ≤ 1 := by rw [hyn]; split <;> omega
    rw [← hyn]
    have Hyn := Lib.hid hyn
    clear hyn
    have e1 : t.data.toList.length = t.size := by simp
    go_wp2_with fail
    refine (out_number_any _ yn 1 w1.heap.size w1.heap.size wc ho3 (Nat.le_refl _) (by simp [be_length]) (by omega) (by omega) (by omega)).mono ?_
    rintro e w4 ⟨rfl, ho4, hb4⟩
    have st4 := st3.next hb4 hw1
    clear q0 q1 q2 q3 q4 q5 st3 hb4 ho3
    obtain ⟨q0, q1, q2, q3, q4, q5⟩ := s_cells st4.blk
    go_wp2_with fail
    refine (out_text_big _ t w1.heap.size w1.heap.size w4 ho4 (Nat.le_refl _) (by simp [be_length]) (by omega)).mono ?_
    rintro e w5 ⟨rfl, ho5, hb5⟩
    have st5 := st4.next hb5 hw1
    clear q0 q1 q2 q3 q4 q5 st4 hb5 ho4
    obtain ⟨q0, q1, q2, q3, q4, q5⟩ := s_cells st5.blk
    have hnN : ∀ (x : Int) (L : List UInt8) (W : World), OutIs W w1.heap.size w1.heap.size L → L.length ≤ 900000 → Calls Try.prog 17 #[.pointer (some ⟨w1.heap.size, 0, none⟩), .int .u64 (IntKind.u64.wrap x), .int .i64 8] W fun e w' =>
        e = .returned (.tuple #[]) ∧ OutIs w' w1.heap.size w1.heap.size (L ++ be (toU x) 8) ∧ Below w1.heap.size W w' := by
      intro x L W hW hL
      rw [toU_eq]
      exact out_number_any L (toU x) 8 w1.heap.size w1.heap.size W hW (Nat.le_refl _) (by omega) (toU_lt x) (by omega) (by omega)
    go_wp2_with fail
    with_reducible refine (hnN N _ w5 ho5 (by simp only [List.length_append, be_length, e1, List.length_nil]; omega)).mono ?_
    rintro e w6 ⟨rfl, ho6, hb6⟩
    have st6 := st5.next hb6 hw1
    clear q0 q1 q2 q3 q4 q5 st5 hb6 ho5
    obtain ⟨q0, q1, q2, q3, q4, q5⟩ := s_cells st6.blk
    go_wp2_with fail
    refine (out_number_any _ rs.length 1 w1.heap.size w1.heap.size w6 ho6 (Nat.le_refl _) (by simp only [List.length_append, be_length, e1, List.length_nil]; omega) (by omega) (by omega) (by omega)).mono ?_
    rintro e w7 ⟨rfl, ho7, hb7⟩
    have st7 := st6.next hb7 hw1
    clear q0 q1 q2 q3 q4 q5 st6 hb7 ho6
    obtain ⟨q0, q1, q2, q3, q4, q5⟩ := s_cells st7.blk
    obtain ⟨L7, hL7e⟩ : ∃ L, L = [] ++ be E 1 ++ be Pl 2 ++ be yn 1 ++ be t.size 2 ++ t.data.toList ++ be (toU N) 8 ++ be rs.length 1 := ⟨_, rfl⟩
    have hL7 : L7.length ≤ 70000 := by rw [hL7e]; simp only [List.length_append, be_length, e1, List.length_nil]; omega
    rw [← hL7e] at ho7
    have HL7 := Lib.hid hL7e
    clear hL7e
    have hgl : w1.heap.size < w7.heap.size := by obtain ⟨v, hb, _⟩ := ho7; exact blk_lt hb
    go_wp2
    go_loopw [65] (fun i wr => ∃ k : Nat, k ≤ rs.length ∧ i = .int .i64 k ∧ OutIs wr w1.heap.size w1.heap.size (L7 ++ encRuns rs k) ∧ RSt w w.heap.size #[.int .i64 E, .int .i64 Pl, .bool y, .string t, .int .i64 N, .slice A rs.length c] wr) (fun i _ => rs.length - (intOf i).toNat)
    case atStart => exact ⟨0, Nat.zero_le _, rfl, by simpa [encRuns] using ho7, st7⟩
    case round =>
      obtain ⟨k, hk, rfl, ho, st⟩ := hrel
      by_cases hlt : k < rs.length
      · obtain ⟨ad, rfl, hc0, hc1⟩ := (hs.below st.ext).at_ hlt
        obtain ⟨L, hLe⟩ : ∃ L, L = L7 ++ encRuns rs k := ⟨_, rfl⟩
        have hL : L.length ≤ 80000 := by rw [hLe, List.length_append, encRuns_length]; omega
        rw [← hLe] at ho
        have HL := Lib.hid hLe
        clear hLe
        have hoa : OutIs (wr.alloc (.cells #[.int .u8 ((rB rs k).toNat : Int), .int .i64 (rT rs k)] 58)) w1.heap.size w1.heap.size L := by
          obtain ⟨v, hb, hown⟩ := ho
          exact ⟨v, blk_alloc hb _, hown.alloc _⟩
        have hgr : w1.heap.size < wr.heap.size := by obtain ⟨v, hb, _⟩ := ho; exact blk_lt hb
        have sta := st.alloc (.cells #[.int .u8 ((rB rs k).toNat : Int), .int .i64 (rT rs k)] 58)
        have hx := heap_alloc_new wr (.cells #[.int .u8 ((rB rs k).toNat : Int), .int .i64 (rT rs k)] 58)
        have hbl := (rB rs k).toNat_lt
        go_wp2_with fail
        refine (out_number_k L (rB rs k).toNat 1 w1.heap.size w1.heap.size _ hoa (Nat.le_refl _) (by omega) (by omega) (by omega) (by omega)).mono ?_
        rintro e w8 ⟨rfl, ho8, hb8, hk8⟩
        have st8 := sta.next hb8 hw1
        have hx8 := hk8 wr.heap.size _ _ _ (by omega) (by decide) hx
        clear hc0 hc1 st sta hb8 hk8 hx ho hoa
        have x0 := blk_cell hx8 0
        have x1 := blk_cell hx8 1
        go_wp2_with fail
        with_reducible refine (hnN (rT rs k) _ w8 ho8 (by rw [List.length_append, be_length]; omega)).mono ?_
        rintro e w9 ⟨rfl, ho9, hb9⟩
        have st9 := st8.next hb9 hw1
        have hend : L ++ be (rB rs k).toNat 1 ++ be (toU (rT rs k)) 8 = L7 ++ encRuns rs (k + 1) := by
          rw [HL.out]; simp [encRuns, be, UInt8.ofNat_toNat]
        rw [hend] at ho9
        clear st8 hb9 ho8 hx8 x0 x1 hend
        go_wp2
        go_roundw
        case rel => exact ⟨k + 1, by omega, by go_num, ho9, st9⟩
        case measure => simp [intOf]; omega
      · have hkn : k = rs.length := by omega
        subst hkn
        have hfin : L7 ++ encRuns rs rs.length = encR E Pl y t N rs := by
          rw [HL7.out, Hyn.out]
          cases y <;> simp [encR, be]
        rw [hfin] at ho
        obtain ⟨v, hblk, hown⟩ := ho
        obtain ⟨A', c', rfl, hsl, hbk⟩ := hown.sl
        have c0 := blk_cell hblk 0
        rw [byc_length] at c0
        go_wp2
        go_ret2
        exact ⟨A', c', rfl, hsl, st.ext⟩
end Go.Proofs.Ytdepbaoechnekaa
