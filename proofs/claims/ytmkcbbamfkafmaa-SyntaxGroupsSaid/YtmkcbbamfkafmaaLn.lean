/- SyntaxGroups: the walk. -/
import Derived.Test.YtmkcbbamfkafmaaME
import Derived.Lib.QuietBelow
namespace Go.Proofs.Ytmkcbbamfkafmaa.P
open Go.RowKit Go.Proofs.Ytmkcbbamfkafmaa Go.Proofs.YtmkcbbamfkafmaaW.PrintWords Go.Proofs.YtmkcbbamfkafmaaW.PrintLast Go.Proofs.YtmkcbbamfkafmaaW.PrintMore
set_option linter.unusedVariables false
set_option linter.unusedSimpArgs false
attribute [local go_sem ↓] addS
/-- The texts of the statement. -/
structure GrT (s u1 b1 u2 u3 u4 b2 : ByteArray) : Prop where
  a1 : ∀ W, (AddS ⟨#[40]⟩ s).run Try.prog W = .ok (.string u1) W
  a2 : ∀ W, (AddS u1 ⟨#[41]⟩).run Try.prog W = .ok (.string b1) W
  a3 : ∀ W, (AddS u1 ⟨#[41, 124, 40]⟩).run Try.prog W = .ok (.string u3) W
  a4 : ∀ W, (AddS u3 s).run Try.prog W = .ok (.string u4) W
  a5 : ∀ W, (AddS u4 ⟨#[41]⟩).run Try.prog W = .ok (.string b2) W
  one : (parseS s).e = 0 → parseS b1 = parseS s
  two : (parseS s).e = 0 → parseS b2 = if wideT (altT (parseS s).t) then ⟨zN, 0, 3⟩ else ⟨altT (parseS s).t, 0, 0⟩
theorem grT (s : ByteArray) (hs : s.size ≤ 190) : ∃ u1 b1 u3 u4 b2, GrT s u1 b1 u1 u3 u4 b2 := by
  obtain ⟨l, hl⟩ : ∃ l, s = tx l := ⟨_, tx_of s⟩
  have hsz : l.length ≤ 190 := by rw [hl, tx_size] at hs; exact hs
  have h1 := at_all ([40] ++ l ++ [41])
  have h2 := at_all ([40] ++ l ++ [41, 124, 40] ++ l ++ [41])
  have hz : s.size = l.length := by rw [hl, tx_size]
  refine ⟨tx ([40] ++ l), tx ([40] ++ l ++ [41]), tx ([40] ++ l ++ [41, 124, 40]), tx ([40] ++ l ++ [41, 124, 40] ++ l), tx ([40] ++ l ++ [41, 124, 40] ++ l ++ [41]), ?_, ?_, ?_, ?_, ?_, ?_, ?_⟩
  · intro W; rw [hl]; exact adds_run W [40] l (by simp; omega)
  · intro W; exact adds_run W ([40] ++ l) [41] (by simp; omega)
  · intro W; exact adds_run W ([40] ++ l) [41, 124, 40] (by simp; omega)
  · intro W; rw [hl]; exact adds_run W ([40] ++ l ++ [41, 124, 40]) l (by simp; omega)
  · intro W; exact adds_run W ([40] ++ l ++ [41, 124, 40] ++ l) [41] (by simp; omega)
  · intro he
    have hA : Ag s (tx ([40] ++ l ++ [41])) 1 := by rw [hl]; exact ag_at h1.left.right
    refine groups_one hA ?_ ?_ ?_ ?_ he
    · exact h1.left.left.head
    · have := h1.right.head
      rw [hz]
      simpa using this
    · rw [tx_size, hz]; simp
    · rw [tx_size]; simp; omega
  · intro he
    have hA : Ag s (tx ([40] ++ l ++ [41, 124, 40] ++ l ++ [41])) 1 := by rw [hl]; exact ag_at h2.left.left.left.right
    have hB : Ag s (tx ([40] ++ l ++ [41, 124, 40] ++ l ++ [41])) (s.size + 4) := by
      have := ag_at h2.left.right
      rw [← hl] at this
      have e : 0 + ([40] ++ l ++ [41, 124, 40]).length = s.size + 4 := by rw [hz]; simp <;> omega
      rw [e] at this
      exact this
    have h3 := h2.left.left.right
    have e3 : 0 + ([40] ++ l).length = s.size + 1 := by rw [hz]; simp <;> omega
    rw [e3] at h3
    refine groups_two hA hB ?_ ?_ ?_ ?_ ?_ ?_ ?_ he
    · exact h2.left.left.left.left.head
    · exact h3.head
    · exact h3.tail.head
    · exact h3.tail.tail.head
    · have := h2.right.head
      have e : 0 + ([40] ++ l ++ [41, 124, 40] ++ l).length = s.size + (s.size + 4) := by rw [hz]; simp; omega
      rw [e] at this
      exact this
    · rw [tx_size, hz]; simp; omega
    · rw [tx_size]; simp; omega
set_option maxHeartbeats 4000000 in
theorem groups_any (s : ByteArray) (w : World) : Calls Try.prog 6 #[.string s] w fun e w' => e = .returned (.bool true) ∧ Below w.heap.size w w' := by
  go_enter Try.func6, Try.ntmps6
  go_wp2_with fail
  refine (awake_any _).mono ?_
  rintro x w1 ⟨rfl, hb1⟩
  by_cases hs : s.size > 190
  · have hz : (s.size : Int) > 190 := by omega
    go_wp2_with fail
    refine (awake_any _).mono ?_
    rintro x w2 ⟨rfl, hb2⟩
    go_wp2
    go_ret
    exact ⟨rfl, ext_trans hb1 hb2⟩
  have hz : ¬ (s.size : Int) > 190 := by omega
  obtain ⟨u1, b1, u3, u4, b2, hg⟩ := grT s (by omega)
  have a1 := hg.a1
  have a2 := hg.a2
  have a3 := hg.a3
  have a4 := hg.a4
  have a5 := hg.a5
  have HG := Lib.hid hg
  clear hg hs
  go_wp2_with fail
  refine (parse_q s w1).mono ?_
  rintro x w2 ⟨tk, t0, t1, t2, t3, tps, tlo, thi, At, ct, tpl, te, rfl, hp, hT, hb2⟩
  have bx : Bx w2.heap.size ⟨tk, ⟨t0, t1, t2, t3⟩, tps, tlo, thi⟩ At ct (w2.alloc (.cells #[.int .i64 tk, .int .u64 t0, .int .u64 t1, .int .u64 t2, .int .u64 t3, .slice At tps.length ct, .int .i64 tlo, .int .i64 thi] 28)) := Bx.new hT.out
  have hbw := (ext_trans hb1 hb2).alloc (ext_trans hb1 hb2).size (.cells #[.int .i64 tk, .int .u64 t0, .int .u64 t1, .int .u64 t2, .int .u64 t3, .slice At tps.length ct, .int .i64 tlo, .int .i64 thi] 28)
  obtain ⟨w3, hw3⟩ : ∃ w3, w3 = w2.alloc (.cells #[.int .i64 tk, .int .u64 t0, .int .u64 t1, .int .u64 t2, .int .u64 t3, .slice At tps.length ct, .int .i64 tlo, .int .i64 thi] 28) := ⟨_, rfl⟩
  rw [← hw3] at hbw bx
  have HBX := Lib.hid bx
  clear hb1 hb2 hT bx
  go_wp2_with fail
  rw [← hw3]
  clear hw3
  refine (parse_q b1 w3).mono ?_
  rintro x w4 ⟨yk, y0, y1, y2, y3, yps, ylo, yhi, Ay, cy, ypl, ye, rfl, hq, hT, hb4⟩
  have bx := HBX.out.later hb4
  have by_ : Bx w4.heap.size ⟨yk, ⟨y0, y1, y2, y3⟩, yps, ylo, yhi⟩ Ay cy (w4.alloc (.cells #[.int .i64 yk, .int .u64 y0, .int .u64 y1, .int .u64 y2, .int .u64 y3, .slice Ay yps.length cy, .int .i64 ylo, .int .i64 yhi] 28)) := Bx.new hT.out
  have bx5 := bx.alloc (.cells #[.int .i64 yk, .int .u64 y0, .int .u64 y1, .int .u64 y2, .int .u64 y3, .slice Ay yps.length cy, .int .i64 ylo, .int .i64 yhi] 28)
  have hbw5 := (ext_trans hbw hb4).alloc (ext_trans hbw hb4).size (.cells #[.int .i64 yk, .int .u64 y0, .int .u64 y1, .int .u64 y2, .int .u64 y3, .slice Ay yps.length cy, .int .i64 ylo, .int .i64 yhi] 28)
  obtain ⟨w5, hw5⟩ : ∃ w5, w5 = w4.alloc (.cells #[.int .i64 yk, .int .u64 y0, .int .u64 y1, .int .u64 y2, .int .u64 y3, .slice Ay yps.length cy, .int .i64 ylo, .int .i64 yhi] 28) := ⟨_, rfl⟩
  rw [← hw5] at hbw5 bx5 by_
  have HBX5 := Lib.hid bx5
  have HBY := Lib.hid by_
  clear hbw hb4 hT bx by_ bx5 HBX
  go_wp2_with fail
  rw [← hw5]
  clear hw5
  refine (parse_q b2 w5).mono ?_
  rintro x w6 ⟨zk, z0, z1, z2, z3, zps, zlo, zhi, Az, cz, zpl, ze, rfl, hr, hT, hb6⟩
  have bx := HBX5.out.later hb6
  have by_ := HBY.out.later hb6
  have bz : Bx w6.heap.size ⟨zk, ⟨z0, z1, z2, z3⟩, zps, zlo, zhi⟩ Az cz (w6.alloc (.cells #[.int .i64 zk, .int .u64 z0, .int .u64 z1, .int .u64 z2, .int .u64 z3, .slice Az zps.length cz, .int .i64 zlo, .int .i64 zhi] 28)) := Bx.new hT.out
  have bx7 := bx.alloc (.cells #[.int .i64 zk, .int .u64 z0, .int .u64 z1, .int .u64 z2, .int .u64 z3, .slice Az zps.length cz, .int .i64 zlo, .int .i64 zhi] 28)
  have by7 := by_.alloc (.cells #[.int .i64 zk, .int .u64 z0, .int .u64 z1, .int .u64 z2, .int .u64 z3, .slice Az zps.length cz, .int .i64 zlo, .int .i64 zhi] 28)
  have hbw7 := (ext_trans hbw5 hb6).alloc (ext_trans hbw5 hb6).size (.cells #[.int .i64 zk, .int .u64 z0, .int .u64 z1, .int .u64 z2, .int .u64 z3, .slice Az zps.length cz, .int .i64 zlo, .int .i64 zhi] 28)
  obtain ⟨w7, hw7⟩ : ∃ w7, w7 = w6.alloc (.cells #[.int .i64 zk, .int .u64 z0, .int .u64 z1, .int .u64 z2, .int .u64 z3, .slice Az zps.length cz, .int .i64 zlo, .int .i64 zhi] 28) := ⟨_, rfl⟩
  rw [← hw7] at hbw7 bx7 by7 bz
  have HBX7 := Lib.hid bx7
  have HBY7 := Lib.hid by7
  have HBZ := Lib.hid bz
  clear hbw5 hb6 hT bx by_ bx7 by7 bz HBX5 HBY
  by_cases he : te = 0
  · subst he
    have hps : (parseS s).e = 0 := by rw [hp.out]
    have h1 := HG.out.one hps
    rw [hq.out, hp.out] at h1
    injection h1 with ht hpl hee
    injection ht with k0 k1 k2 k3 k4
    injection k1 with j0 j1 j2 j3
    subst k0 j0 j1 j2 j3 k2 k3 k4 hee
    have hcnt := parse_cnt s
    rw [hp.out] at hcnt
    dsimp only at hcnt
    have h2 := HG.out.two hps
    rw [hr.out, hp.out] at h2
    dsimp only at h2
    have H2 := Lib.hid h2
    have hsm := tr_refSame _ _ At Ay ct cy w7 hcnt HBX7.out.tr HBY7.out.tr
    rw [same_refl] at hsm
    unfold ndV at hsm
    obtain ⟨c0, c1, c2, c3, c4, c5, c6, c7⟩ := n_cells HBX7.out.blk
    obtain ⟨d0, d1, d2, d3, d4, d5, d6, d7⟩ := n_cells HBY7.out.blk
    rw [hw7] at c0 c1 c2 c3 c4 c5 c6 c7 d0 d1 d2 d3 d4 d5 d6 d7 hsm
    have HW7 := Lib.hid hw7
    clear h2 a1 a2 a3 a4 a5 hw7
    go_wp2_with fail
    refine hsm.mono ?_
    rintro x w8 ⟨rfl, hb8⟩
    rw [← HW7.out] at hb8
    have bx8 := HBX7.out.later hb8
    have bz8 := HBZ.out.later hb8
    have hbw8 := ext_trans hbw7 hb8
    clear hsm c0 c1 c2 c3 c4 c5 c6 c7 d0 d1 d2 d3 d4 d5 d6 d7 hbw7 hb8 HBX7 HBY7 HBZ
    by_cases hw : wideT (altT ⟨yk, ⟨y0, y1, y2, y3⟩, yps, ylo, yhi⟩)
    · have h2 := H2.out
      rw [if_pos hw] at h2
      injection h2 with _ _ hze
      subst hze
      go_wp2
      go_ret
      exact ⟨rfl, hbw8⟩
    · have h2 := H2.out
      rw [if_neg hw] at h2
      injection h2 with ht _ hze
      subst hze
      unfold altT at ht
      injection ht with k0 k1 k2 k3 k4
      injection k1 with j0 j1 j2 j3
      subst k0 j0 j1 j2 j3 k2 k3 k4
      obtain ⟨ad, A0, c0, hA0, hT0, e0, e1, e2, e3, e4, e5, e6, e7⟩ := bz8.tr.child 0 (by simp)
      obtain ⟨ad1, A1, c1, hA1, hT1, f0, f1, f2, f3, f4, f5, f6, f7⟩ := bz8.tr.child 1 (by simp)
      subst hA0
      injection hA1 with hA1
      subst hA1
      have hcz : 2 ≤ cz := bz8.tr.cap
      have hT0' : Tr w8 ⟨yk, ⟨y0, y1, y2, y3⟩, yps, ylo, yhi⟩ A0 c0 := hT0
      have hT1' : Tr w8 ⟨yk, ⟨y0, y1, y2, y3⟩, yps, ylo, yhi⟩ A1 c1 := hT1
      obtain ⟨b0, b1, b2, b3, b4, b5, b6, b7⟩ := n_cells bz8.blk
      obtain ⟨d0, d1, d2, d3, d4, d5, d6, d7⟩ := n_cells bx8.blk
      have q1 := fun d os => Calls.regrown_of (tr_refSame ⟨yk, ⟨y0, y1, y2, y3⟩, yps, ylo, yhi⟩ ⟨yk, ⟨y0, y1, y2, y3⟩, yps, ylo, yhi⟩ A0 At c0 ct (Go.Sort.grow (redrawn w8 d) os) hcnt (hT0'.below (below_regrown w8 d os)) (bx8.tr.below (below_regrown w8 d os)))
      have q2 := fun d os => Calls.regrown_of (tr_refSame ⟨yk, ⟨y0, y1, y2, y3⟩, yps, ylo, yhi⟩ ⟨yk, ⟨y0, y1, y2, y3⟩, yps, ylo, yhi⟩ A1 At c1 ct (Go.Sort.grow (redrawn w8 d) os) hcnt (hT1'.below (below_regrown w8 d os)) (bx8.tr.below (below_regrown w8 d os)))
      rw [same_refl] at q1 q2
      unfold ndV at q1 q2
      have s0 := cell_regrown b0
      have s5 := cell_regrown b5
      have kd0 := cell_regrown d0
      have kd1 := cell_regrown d1
      have kd2 := cell_regrown d2
      have kd3 := cell_regrown d3
      have kd4 := cell_regrown d4
      have kd5 := cell_regrown d5
      have kd6 := cell_regrown d6
      have kd7 := cell_regrown d7
      have ke0 := cell_regrown (show w8.cell? ad = some _ from e0)
      have ke1 := cell_regrown (show w8.cell? ⟨ad.block, ad.off + 1, none⟩ = some _ from e1)
      have ke2 := cell_regrown (show w8.cell? ⟨ad.block, ad.off + 2, none⟩ = some _ from e2)
      have ke3 := cell_regrown (show w8.cell? ⟨ad.block, ad.off + 3, none⟩ = some _ from e3)
      have ke4 := cell_regrown (show w8.cell? ⟨ad.block, ad.off + 4, none⟩ = some _ from e4)
      have ke5 := cell_regrown (show w8.cell? ⟨ad.block, ad.off + 5, none⟩ = some _ from e5)
      have ke6 := cell_regrown (show w8.cell? ⟨ad.block, ad.off + 6, none⟩ = some _ from e6)
      have ke7 := cell_regrown (show w8.cell? ⟨ad.block, ad.off + 7, none⟩ = some _ from e7)
      have kf0 := cell_regrown (show w8.cell? ⟨ad.block, ad.off + 8, none⟩ = some _ from f0)
      have kf1 := cell_regrown (show w8.cell? ⟨ad.block, ad.off + 8 + 1, none⟩ = some _ from f1)
      have kf2 := cell_regrown (show w8.cell? ⟨ad.block, ad.off + 8 + 2, none⟩ = some _ from f2)
      have kf3 := cell_regrown (show w8.cell? ⟨ad.block, ad.off + 8 + 3, none⟩ = some _ from f3)
      have kf4 := cell_regrown (show w8.cell? ⟨ad.block, ad.off + 8 + 4, none⟩ = some _ from f4)
      have kf5 := cell_regrown (show w8.cell? ⟨ad.block, ad.off + 8 + 5, none⟩ = some _ from f5)
      have kf6 := cell_regrown (show w8.cell? ⟨ad.block, ad.off + 8 + 6, none⟩ = some _ from f6)
      have kf7 := cell_regrown (show w8.cell? ⟨ad.block, ad.off + 8 + 7, none⟩ = some _ from f7)
      clear b0 b1 b2 b3 b4 b5 b6 b7 d0 d1 d2 d3 d4 d5 d6 d7 e0 e1 e2 e3 e4 e5 e6 e7 f0 f1 f2 f3 f4 f5 f6 f7 hT0 hT1 hT0' hT1' hw H2 HW7 hp hq hr hcnt HG
      go_wp2_with fail
      refine wp_region_quiet_below (by kernel_rfl) (by kernel_rfl) ?_
      repeat (quiet_step (fail))
      quiet_step (exact q1 _ _)
      repeat (quiet_step (fail))
      quiet_step (exact q2 _ _)
      repeat (quiet_step (fail))
      refine wpQuiet_nil ?_
      intro _ hw'
      obtain ⟨⟨dq, osq⟩, hw''⟩ := hw'
      subst hw''
      go_wp2
      go_ret
      exact ⟨rfl, ext_trans hbw8 (below_regrown w8 dq osq)⟩
  · have hez : (te == 0) = false := by simpa using he
    have hez2 : (te != 0) = true := by simpa using he
    clear a1 a2 a3 a4 a5
    rw [hw7] at hbw7
    go_wp2
    go_ret
    exact ⟨rfl, hbw7⟩
end Go.Proofs.Ytmkcbbamfkafmaa.P
