/- The walk of package request's DecodeResponse. -/
import Derived.Test.YtdepbaoechnekaaRunD
namespace Go.Proofs.Ytdepbaoechnekaa
open Go.RowKit

set_option maxHeartbeats 1000000 in
theorem decodeR_any (l : List UInt8) (A : Option Addr) (c : Nat) (w : World) (hs : Sl w A c (byc l)) (hl : l.length ≤ 1000000) :
    Calls Try.prog 12 #[.slice A l.length c] w fun e w' => Below w.heap.size w w' ∧
      (((decR l).ok = true ∧ ∃ A' c', e = .returned (.tuple #[.agg #[.int .i64 ((decR l).E : Nat), .int .i64 ((decR l).P : Nat), .bool (((decR l).y : Int) == 1), .string ⟨(decR l).t.toArray⟩, .int .i64 (toI (decR l).N), .slice A' (decR l).rs.length c'], .int .i64 0]) ∧ Rs w' A' c' (decR l).rs) ∨
       ((decR l).ok = false ∧ e = .returned (.tuple #[.agg #[.int .i64 0, .int .i64 0, .bool false, .string ⟨#[]⟩, .int .i64 0, .slice none 0 0], .int .i64 6]))) := by
  have st0 : DS w ((w.alloc (.cells #[.int .i64 0, .int .i64 0, .bool false, .string ⟨#[]⟩, .int .i64 0, .slice none 0 0] 38)).alloc (.cells #[.slice A l.length c, .bool false] 54)) (l, false) := by
    refine ⟨?_, ⟨A, c, ?_, (hs.alloc _).alloc _, ?_⟩, ?_, by simp⟩
    · exact blk_alloc (heap_alloc_new w _) _
    · exact heap_alloc2_new w _ _
    · intro ad e hne
      have := hs.lt (by rw [byc_length]; exact List.length_pos_iff.2 hne) ad e
      omega
    · exact ((Below.refl _ w).alloc (Nat.le_refl _) _).alloc (by simp) _
  go_enter Try.func12, Try.ntmps12
  go_wp2_with fail
  refine (number_p (l, false) 1 _ _ _ st0.inp (by show l.length ≤ _; omega) (by omega)).mono ?_
  rintro e w1 ⟨rfl, hi1, hf1⟩
  have st1 := st0.next hi1 hf1
  clear st0 hi1 hf1
  obtain ⟨E, hE⟩ : ∃ k, k = rdNum (l, false) 1 := ⟨_, rfl⟩
  have hEb : E < 256 := by rw [hE]; exact rdNum_lt _ 1
  obtain ⟨p1, hp1⟩ : ∃ p, p = rdNumR (l, false) 1 := ⟨_, rfl⟩
  have hl1 : p1.1.length ≤ 1000000 := by rw [hp1]; exact Nat.le_trans (rdNumR_le _ _) hl
  rw [← hp1] at st1
  rw [← hE]
  have HE := Lib.hid hE
  have H1 := Lib.hid hp1
  clear hE hp1
  go_wp2_with fail
  refine (number_p p1 2 _ _ _ st1.inp (by omega) (by omega)).mono ?_
  rintro e w2 ⟨rfl, hi2, hf2⟩
  have st2 := st1.next hi2 hf2
  clear st1 hi2 hf2
  obtain ⟨Pl, hP⟩ : ∃ k, k = rdNum p1 2 := ⟨_, rfl⟩
  have hPb : Pl < 65536 := by rw [hP]; exact rdNum_lt _ 2
  obtain ⟨p2, hp2⟩ : ∃ p, p = rdNumR p1 2 := ⟨_, rfl⟩
  have hl2 : p2.1.length ≤ 1000000 := by rw [hp2]; exact Nat.le_trans (rdNumR_le _ _) hl1
  rw [← hp2] at st2
  rw [← hP]
  have HP := Lib.hid hP
  have H2 := Lib.hid hp2
  clear hP hp2
  have st2a := st2.alloc (.cells #[.int .i64 E, .int .i64 Pl, .bool false, .string ⟨#[]⟩, .int .i64 0, .slice none 0 0] 38)
  have hQ2 := heap_alloc_new w2 (.cells #[.int .i64 E, .int .i64 Pl, .bool false, .string ⟨#[]⟩, .int .i64 0, .slice none 0 0] 38)
  have hQlt := st2.lt
  have hQ2s := blk_lt hQ2
  obtain ⟨Qn, hQn⟩ : ∃ q, q = w2.heap.size := ⟨_, rfl⟩
  clear st2
  go_wp2_with fail
  refine (number_p p2 1 _ _ _ st2a.inp (by omega) (by omega)).mono ?_
  rintro e w3 ⟨rfl, hi3, hf3⟩
  have st3 := st2a.next hi3 hf3
  have hQ3 := (hf3.block _ hQ2s (by omega)).trans hQ2
  clear st2a hi3 hf3 hQ2 hQ2s
  rw [← hQn] at hQ3 hQlt ⊢
  clear hQn
  obtain ⟨y, hy⟩ : ∃ k, k = rdNum p2 1 := ⟨_, rfl⟩
  have hyb : y < 256 := by rw [hy]; exact rdNum_lt _ 1
  obtain ⟨p3, hp3⟩ : ∃ p, p = rdNumR p2 1 := ⟨_, rfl⟩
  have hl3 : p3.1.length ≤ 1000000 := by rw [hp3]; exact Nat.le_trans (rdNumR_le _ _) hl2
  rw [← hp3] at st3
  rw [← hy]
  have Hy := Lib.hid hy
  have H3 := Lib.hid hp3
  clear hy hp3
  have qf := blk_frozen hQ3 2
  have qc := blk_cell hQ3 2
  have st3s := st3.set (a := ⟨Qn, 2, none⟩) (by show w.heap.size + 1 < Qn; omega) (.bool ((y : Int) == 1))
  have hQ3s : (w3.setCell ⟨Qn, 2, none⟩ (.bool ((y : Int) == 1))).heap[Qn]? = some (.cells #[.int .i64 E, .int .i64 Pl, .bool ((y : Int) == 1), .string ⟨#[]⟩, .int .i64 0, .slice none 0 0] 38) := blk_set hQ3 2 _
  clear st3
  go_wp2_with fail
  refine (text_p p3 _ _ _ st3s.inp (by omega)).mono ?_
  rintro e w4 ⟨rfl, hi4, hf4⟩
  have st4 := st3s.next hi4 hf4
  have hQ4 := (hf4.block _ (blk_lt hQ3s) (by omega)).trans hQ3s
  clear st3s hi4 hf4 hQ3s hQ3 qf qc w3
  obtain ⟨t, ht⟩ : ∃ b, b = rdText p3 := ⟨_, rfl⟩
  obtain ⟨p4, hp4⟩ : ∃ p, p = rdTextR p3 := ⟨_, rfl⟩
  have hl4 : p4.1.length ≤ 1000000 := by rw [hp4]; exact Nat.le_trans (rdTextR_le _) hl3
  have hlt : t.length ≤ 1000000 := by rw [ht]; exact Nat.le_trans (rdText_le _) hl3
  rw [← hp4] at st4
  rw [← ht]
  have Ht := Lib.hid ht
  have H4 := Lib.hid hp4
  clear ht hp4
  have qf := blk_frozen hQ4 3
  have qc := blk_cell hQ4 3
  have st4s := st4.set (a := ⟨Qn, 3, none⟩) (by show w.heap.size + 1 < Qn; omega) (.string ⟨t.toArray⟩)
  have hQ4s : (w4.setCell ⟨Qn, 3, none⟩ (.string ⟨t.toArray⟩)).heap[Qn]? = some (.cells #[.int .i64 E, .int .i64 Pl, .bool ((y : Int) == 1), .string ⟨t.toArray⟩, .int .i64 0, .slice none 0 0] 38) := blk_set hQ4 3 _
  clear st4
  go_wp2_with fail
  refine (number_p p4 8 _ _ _ st4s.inp (by omega) (by omega)).mono ?_
  rintro e w5 ⟨rfl, hi5, hf5⟩
  have st5 := st4s.next hi5 hf5
  have hQ5 := (hf5.block _ (blk_lt hQ4s) (by omega)).trans hQ4s
  clear st4s hi5 hf5 hQ4s hQ4 qf qc
  obtain ⟨N, hN⟩ : ∃ k, k = rdNum p4 8 := ⟨_, rfl⟩
  obtain ⟨p5, hp5⟩ : ∃ p, p = rdNumR p4 8 := ⟨_, rfl⟩
  have hl5 : p5.1.length ≤ 1000000 := by rw [hp5]; exact Nat.le_trans (rdNumR_le _ _) hl4
  rw [← hp5] at st5
  rw [← hN]
  have HN := Lib.hid hN
  have H5 := Lib.hid hp5
  clear hN hp5
  have qf := blk_frozen hQ5 4
  have qc := blk_cell hQ5 4
  have st5s := st5.set (a := ⟨Qn, 4, none⟩) (by show w.heap.size + 1 < Qn; omega) (.int .i64 (wrap64 N))
  have hQ5s : (w5.setCell ⟨Qn, 4, none⟩ (.int .i64 (wrap64 N))).heap[Qn]? = some (.cells #[.int .i64 E, .int .i64 Pl, .bool ((y : Int) == 1), .string ⟨t.toArray⟩, .int .i64 (toI N), .slice none 0 0] 38) := blk_set hQ5 4 _
  clear st5
  go_wp2_with fail
  refine (number_p p5 1 _ _ _ st5s.inp (by omega) (by omega)).mono ?_
  rintro e w6 ⟨rfl, hi6, hf6⟩
  have st6 := st5s.next hi6 hf6
  have hQ6 := (hf6.block _ (blk_lt hQ5s) (by omega)).trans hQ5s
  clear st5s hi6 hf6 hQ5s hQ5 qf qc
  obtain ⟨cnt, hcnt⟩ : ∃ k, k = rdNum p5 1 := ⟨_, rfl⟩
  have hcb : cnt < 256 := by rw [hcnt]; exact rdNum_lt _ 1
  obtain ⟨p6, hp6⟩ : ∃ p, p = rdNumR p5 1 := ⟨_, rfl⟩
  have hl6 : p6.1.length ≤ 1000000 := by rw [hp6]; exact Nat.le_trans (rdNumR_le _ _) hl5
  rw [← hp6] at st6
  rw [← hcnt]
  have Hc := Lib.hid hcnt
  have H6 := Lib.hid hp6
  clear hcnt hp6
  go_wp2
  obtain ⟨ir, hir, hr0, hr1, hr2⟩ := info_parts infoRun
  go_loopw [31] (fun i wr => ∃ (k : Nat) (v : Value), k ≤ cnt ∧ i = .int .u64 k ∧ DS w wr (rdRuns p6 k).2 ∧
      wr.heap[Qn]? = some (.cells #[.int .i64 E, .int .i64 Pl, .bool ((y : Int) == 1), .string ⟨t.toArray⟩, .int .i64 (toI N), v] 38) ∧ OwR wr (Qn + 1) v (rdRuns p6 k).1) (fun i _ => cnt - (intOf i).toNat)
  case atStart => exact ⟨0, .slice none 0 0, Nat.zero_le _, rfl, st6, hQ6, OwR.nil _ _⟩
  case round =>
    obtain ⟨k, v, hk, rfl, st, hQ, hown⟩ := hrel
    by_cases hlt : k < cnt
    · obtain ⟨q, hq⟩ : ∃ q, q = (rdRuns p6 k).2 := ⟨_, rfl⟩
      have hlq : q.1.length ≤ 1000000 := by rw [hq]; exact Nat.le_trans (rdRuns_le _ _) hl6
      have hll := rdRuns_length p6 k
      obtain ⟨rs, hrs⟩ : ∃ rs, rs = (rdRuns p6 k).1 := ⟨_, rfl⟩
      rw [← hrs] at hown hll
      rw [← hq] at st
      have Hq := Lib.hid hq
      have Hr := Lib.hid hrs
      clear hq hrs
      obtain ⟨A', c', rfl, hsl, hbk⟩ := hown.sl
      have c5 := blk_cell hQ 5
      have f5 := blk_frozen hQ 5
      have hQs : Qn < wr.heap.size := blk_lt hQ
      have hll2 : rs.length ≤ 100000 := by omega
      obtain ⟨x1, hx1⟩ : ∃ x, x = rdNum q 1 := ⟨_, rfl⟩
      obtain ⟨q1, hq1⟩ : ∃ x, x = rdNumR q 1 := ⟨_, rfl⟩
      have hx1b : x1 < 256 := by rw [hx1]; exact rdNum_lt _ 1
      have hlq1 : q1.1.length ≤ 1000000 := by rw [hq1]; exact Nat.le_trans (rdNumR_le _ _) hlq
      have hn1 : ∀ W, InIs W w.heap.size (w.heap.size + 1) q.1 q.2 → Calls Try.prog 21 #[.pointer (some ⟨w.heap.size + 1, 0, none⟩), .int .i64 1] W fun e w' => e = .returned (.int .u64 x1) ∧ InIs w' w.heap.size (w.heap.size + 1) q1.1 q1.2 ∧ Fr W.heap.size (w.heap.size + 1) W w' := by
        rw [hx1, hq1]
        exact fun W hW => number_p q 1 _ _ W hW (by omega) (by omega)
      obtain ⟨x2, hx2⟩ : ∃ x, x = rdNum q1 8 := ⟨_, rfl⟩
      obtain ⟨q2, hq2⟩ : ∃ x, x = rdNumR q1 8 := ⟨_, rfl⟩
      have hn2 : ∀ W, InIs W w.heap.size (w.heap.size + 1) q1.1 q1.2 → Calls Try.prog 21 #[.pointer (some ⟨w.heap.size + 1, 0, none⟩), .int .i64 8] W fun e w' => e = .returned (.int .u64 x2) ∧ InIs w' w.heap.size (w.heap.size + 1) q2.1 q2.2 ∧ Fr W.heap.size (w.heap.size + 1) W w' := by
        rw [hx2, hq2]
        exact fun W hW => number_p q1 8 _ _ W hW (by omega) (by omega)
      have Hx1 := Lib.hid hx1
      have Hx2 := Lib.hid hx2
      have Hq1 := Lib.hid hq1
      have Hq2 := Lib.hid hq2
      clear hx1 hx2 hq1 hq2
      have l0 : LS w Qn #[.int .i64 E, .int .i64 Pl, .bool ((y : Int) == 1), .string ⟨t.toArray⟩, .int .i64 (toI N), .slice A' rs.length c'] (.slice A' rs.length c') rs wr.drew q := ⟨st.drew, hQ, hown, hQlt⟩
      have hid : InIs wr.drew w.heap.size (w.heap.size + 1) q.1 q.2 := l0.ds.inp
      have eb : IntKind.u8.wrap (x1 : Int) = ((UInt8.ofNat x1).toNat : Int) := by rw [UInt8.toNat_ofNat', IntKind.wrap_u8]; omega
      have ei : IntKind.i64.wrap (x2 : Int) = toI x2 := by unfold toI wrap64; rw [IntKind.wrap_i64]
      have hr0' : ∀ W : World, (W.alloc (.cells #[.int .u8 (IntKind.u8.wrap x1), .int .i64 (IntKind.i64.wrap x2)] 58)).cell? ((⟨W.heap.size, 0, none⟩ : Addr).add 0) = some (.int .u8 ((UInt8.ofNat x1, toI x2).1.toNat : Int)) := fun W => by
        show _ = some (Value.int .u8 ((UInt8.ofNat x1).toNat : Int)); rw [← eb]; exact blk_cell (heap_alloc_new W _) 0
      have hr1' : ∀ W : World, (W.alloc (.cells #[.int .u8 (IntKind.u8.wrap x1), .int .i64 (IntKind.i64.wrap x2)] 58)).cell? ((⟨W.heap.size, 0, none⟩ : Addr).add 1) = some (.int .i64 (UInt8.ofNat x1, toI x2).2) := fun W => by
        show _ = some (Value.int .i64 (toI x2)); rw [← ei]; exact blk_cell (heap_alloc_new W _) 1
      have Eb := Lib.hid eb
      have Ei := Lib.hid ei
      clear eb ei
      have hrd1 : (rdRuns p6 (k + 1)).1 = rs ++ [(UInt8.ofNat x1, toI x2)] := by
        rw [Hr.out, Hx1.out, Hx2.out, Hq1.out, Hq.out]; rfl
      have hrd2 : (rdRuns p6 (k + 1)).2 = q2 := by
        rw [Hq2.out, Hq1.out, Hq.out]; rfl
      have Hrd1 := Lib.hid hrd1
      have Hrd2 := Lib.hid hrd2
      clear hrd1 hrd2
      have Hll := Lib.hid hll
      clear hQ hown hsl hbk st hll
      go_wp2
      go_region_law (first
        | (have := hia; go_simp; go_at_call 21; refine (hn2 wa hia).mono ?_; rintro e wb ⟨rfl, hib, hfb⟩
           have l2 := l1.next hib hfb
           have c5b := blk_cell l2.blk 5
           have c5d := blk_cell (blk_alloc l2.blk (.cells #[.int .u8 (IntKind.u8.wrap x1), .int .i64 (IntKind.i64.wrap x2)] 58)) 5)
        | (go_simp; go_at_call 21; refine (hn1 wr.drew hid).mono ?_; rintro e wa ⟨rfl, hia, hfa⟩
           have l1 := l0.next hia hfa
           have c5a := blk_cell l1.blk 5)
        | (refine step_append_run rfl (.tmp 34) (.tmp 42) 36 rfl (Qn + 1) ir (.agg #[.int .u8 0, .int .i64 0]) Try.underlying36 hir hr0 hr1 hr2 rfl (.slice A' rs.length c') rs (by simp [Act.eval, Act.put]) (l2.own.alloc _) ⟨wb.heap.size, 0, none⟩ (UInt8.ofNat x1, toI x2) (by simp [Act.eval, Act.put] <;> rfl) (hr0' _) (hr1' _) hll2 (l2.base _) ?_; intro v2 w3 hown3 hgr3 hbv3
           have l3 := l2.append hgr3 hown3
           obtain ⟨A2, c2, hv, hsl3, hbk3⟩ := hown3.sl
           obtain ⟨n2, hn2e⟩ : ∃ n, n = (rs ++ [(UInt8.ofNat x1, toI x2)]).length := ⟨_, rfl⟩
           rw [← hn2e] at hv
           subst hv
           clear hn2e hbk3 hsl3 hbv3 hgr3
           have c5c := blk_cell l3.blk 5
           have f5c := blk_frozen l3.blk 5))
      all_goals go_wp2
      all_goals
        refine ⟨⟨k + 1, .slice A2 n2 c2, by omega, by go_num, ?_, ?_, ?_⟩, by simp [intOf]; omega⟩
        · rw [Hrd2.out]
          exact l3.ds.set (a := ⟨Qn, 5, none⟩) (by show w.heap.size + 1 < Qn; omega) _
        · exact blk_set l3.blk 5 _
        · rw [Hrd1.out]
          exact hown3.far (a := ⟨Qn, 5, none⟩) (by show Qn < Qn + 1; omega) _
    · have hkc : k = cnt := by omega
      subst hkc
      have hd : decR l = ⟨E, Pl, y, t, N, (rdRuns p6 k).1, (rdRuns p6 k).2⟩ := by
        rw [HE.out, HP.out, Hy.out, Ht.out, HN.out, H6.out, Hc.out, H5.out, H4.out, H3.out, H2.out, H1.out]; rfl
      have hT := rT_I64 (rdRuns_I64 p6 k)
      generalize (rdRuns p6 k).1 = rs at hd hown hT
      generalize (rdRuns p6 k).2 = pE at hd st
      obtain ⟨A2, c2, rfl, hsl, hbk⟩ := hown.sl
      have Hd := Lib.hid hd
      clear hd
      have hlt7 := st.lt
      have hbk' : ∀ ad, A2 = some ad → ad.block ≠ w.heap.size := fun ad e => by have := hbk ad e; omega
      clear hbk
      go_wp2_with fail
      refine (over_any pE.1 pE.2 _ _ _ st.inp).mono ?_
      rintro e w7 ⟨rfl, rfl⟩
      cases hov : (!pE.2 && decide (pE.1 = [])) with
      | false =>
        obtain ⟨r0, r1, r2, r3, r4, r5⟩ := s_cells st.res
        have g0 := blk_frozen st.res 0
        have g1 := blk_frozen st.res 1
        have g2 := blk_frozen st.res 2
        have g3 := blk_frozen st.res 3
        have g4 := blk_frozen st.res 4
        have g5 := blk_frozen st.res 5
        go_wp2
        refine post_row_tmp6 (p := 2) (u := 3) rfl rfl (blk_set6 st.res) Try.underlying38 rfl infoS rfl rfl ?_
        refine ⟨below_set6 st.ext (Nat.le_refl _) _ _ _ _ _ _, .inr ⟨?_, rfl⟩⟩
        rw [Hd.out]
        simp only [DecR.ok, hov, Bool.false_and]
      | true =>
        by_cases hy1 : 1 < y
        · obtain ⟨r0, r1, r2, r3, r4, r5⟩ := s_cells st.res
          have g0 := blk_frozen st.res 0
          have g1 := blk_frozen st.res 1
          have g2 := blk_frozen st.res 2
          have g3 := blk_frozen st.res 3
          have g4 := blk_frozen st.res 4
          have g5 := blk_frozen st.res 5
          go_wp2
          refine post_row_tmp6 (p := 2) (u := 3) rfl rfl (blk_set6 st.res) Try.underlying38 rfl infoS rfl rfl ?_
          refine ⟨below_set6 st.ext (Nat.le_refl _) _ _ _ _ _ _, .inr ⟨?_, rfl⟩⟩
          rw [Hd.out]
          simp only [DecR.ok, decide_eq_false (show ¬ y ≤ 1 by omega), Bool.false_and, Bool.and_false]
        · have c5 := blk_cell hQ 5
          go_wp2_with fail
          refine (formedR_any rs hT A2 c2 _ hsl).mono ?_
          rintro e w8 ⟨rfl, hb8⟩
          have st8 := st.below hb8
          have hs8 := hsl.below hb8
          have hQ8 := blk_below hQ hb8
          clear st hsl hQ hb8 c5 hown
          obtain ⟨q0, q1, q2, q3, q4, q5⟩ := s_cells hQ8
          obtain ⟨r0, r1, r2, r3, r4, r5⟩ := s_cells st8.res
          have g0 := blk_frozen st8.res 0
          have g1 := blk_frozen st8.res 1
          have g2 := blk_frozen st8.res 2
          have g3 := blk_frozen st8.res 3
          have g4 := blk_frozen st8.res 4
          have g5 := blk_frozen st8.res 5
          cases hfo : runsOk rs with
          | false =>
            go_wp2
            refine post_row_tmp6 (p := 2) (u := 3) rfl rfl (blk_set6 st8.res) Try.underlying38 rfl infoS rfl rfl ?_
            refine ⟨below_set6 st8.ext (Nat.le_refl _) _ _ _ _ _ _, .inr ⟨?_, rfl⟩⟩
            rw [Hd.out]
            simp only [DecR.ok, hfo, Bool.and_false]
          | true =>
            go_wp2
            refine post_row_tmp6 (p := 2) (u := 3) rfl rfl (blk_set6 st8.res) Try.underlying38 rfl infoS rfl rfl ?_
            refine ⟨below_set6 st8.ext (Nat.le_refl _) _ _ _ _ _ _, .inl ⟨?_, A2, c2, ?_, ?_⟩⟩
            · rw [Hd.out]
              simp only [DecR.ok, hov, hfo, Bool.and_true, decide_eq_true (show y ≤ 1 by omega)]
            · rw [Hd.out]; rfl
            · rw [Hd.out]
              exact rs_set6 hs8 hbk' _ _ _ _ _ _
end Go.Proofs.Ytdepbaoechnekaa
