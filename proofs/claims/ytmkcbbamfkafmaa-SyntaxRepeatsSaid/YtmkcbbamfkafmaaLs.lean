/- SyntaxRepeats: the walk. -/
import Derived.Test.YtmkcbbamfkafmaaLo
import Derived.Lib.QuietBelow
namespace Go.Proofs.Ytmkcbbamfkafmaa.P
open Go.RowKit Go.Proofs.Ytmkcbbamfkafmaa Go.Proofs.YtmkcbbamfkafmaaW.PrintWords Go.Proofs.YtmkcbbamfkafmaaW.PrintLast Go.Proofs.YtmkcbbamfkafmaaW.PrintMore
set_option linter.unusedVariables false
set_option linter.unusedSimpArgs false
attribute [local go_sem ↓] addS
/-- The texts of the statement. -/
structure RpT (s D E u1 u2 u3 u4 u5 b : ByteArray) (lo hi : Nat) : Prop where
  d : D = tx (digL lo)
  e : E = tx (digL hi)
  a1 : ∀ W, (AddS ⟨#[40]⟩ s).run Try.prog W = .ok (.string u1) W
  a2 : ∀ W, (AddS u1 ⟨#[41, 123]⟩).run Try.prog W = .ok (.string u2) W
  a3 : ∀ W, (AddS u2 D).run Try.prog W = .ok (.string u3) W
  a4 : ∀ W, (AddS u3 ⟨#[44]⟩).run Try.prog W = .ok (.string u4) W
  a5 : ∀ W, (AddS u4 E).run Try.prog W = .ok (.string u5) W
  a6 : ∀ W, (AddS u5 ⟨#[125]⟩).run Try.prog W = .ok (.string b) W
  rep : (parseS s).e = 0 → parseS b = if wideT (timN (parseS s).t lo hi) then ⟨zN, 0, 3⟩ else ⟨timN (parseS s).t lo hi, 0, 0⟩
theorem rpT (s : ByteArray) (hs : s.size ≤ 100) (lo hi : Nat) (hl : lo ≤ hi) (hh : hi ≤ 1000) : ∃ D E u1 u2 u3 u4 u5 b, RpT s D E u1 u2 u3 u4 u5 b lo hi := by
  obtain ⟨l, hl2⟩ : ∃ l, s = tx l := ⟨_, tx_of s⟩
  have hsz : l.length ≤ 100 := by rw [hl2, tx_size] at hs; exact hs
  have l1 := digL_le lo (by omega)
  have l2 := digL_le hi (by omega)
  have h := at_all ([40] ++ l ++ [41, 123] ++ digL lo ++ [44] ++ digL hi ++ [125])
  have hz : s.size = l.length := by rw [hl2, tx_size]
  refine ⟨tx (digL lo), tx (digL hi), tx ([40] ++ l), tx ([40] ++ l ++ [41, 123]), tx ([40] ++ l ++ [41, 123] ++ digL lo), tx ([40] ++ l ++ [41, 123] ++ digL lo ++ [44]), tx ([40] ++ l ++ [41, 123] ++ digL lo ++ [44] ++ digL hi), tx ([40] ++ l ++ [41, 123] ++ digL lo ++ [44] ++ digL hi ++ [125]), rfl, rfl, ?_, ?_, ?_, ?_, ?_, ?_, ?_⟩
  · intro W; rw [hl2]; exact adds_run W [40] l (by simp; omega)
  · intro W; exact adds_run W _ [41, 123] (by simp; omega)
  · intro W; exact adds_run W _ _ (by simp; omega)
  · intro W; exact adds_run W _ [44] (by simp; omega)
  · intro W; exact adds_run W _ _ (by simp; omega)
  · intro W; exact adds_run W _ [125] (by simp; omega)
  · intro he
    have hA : Ag s (tx ([40] ++ l ++ [41, 123] ++ digL lo ++ [44] ++ digL hi ++ [125])) 1 := by rw [hl2]; exact ag_at h.left.left.left.left.left.right
    have a3 := h.left.left.left.left.right
    have a4 := h.left.left.left.right
    have a5 := h.left.left.right
    have a6 := h.left.right
    have a7 := h.right
    have e3 : 0 + ([40] ++ l).length = s.size + 1 := by rw [hz]; simp <;> omega
    have e4 : 0 + ([40] ++ l ++ [41, 123]).length = s.size + 3 := by rw [hz]; simp <;> omega
    have e5 : 0 + ([40] ++ l ++ [41, 123] ++ digL lo).length = s.size + 3 + (digL lo).length := by rw [hz]; simp <;> omega
    have e6 : 0 + ([40] ++ l ++ [41, 123] ++ digL lo ++ [44]).length = s.size + 3 + (digL lo).length + 1 := by rw [hz]; simp <;> omega
    have e7 : 0 + ([40] ++ l ++ [41, 123] ++ digL lo ++ [44] ++ digL hi).length = s.size + 3 + (digL lo).length + 1 + (digL hi).length := by rw [hz]; simp <;> omega
    rw [e3] at a3
    rw [e4] at a4
    rw [e5] at a5
    rw [e6] at a6
    rw [e7] at a7
    refine repeats hA h.left.left.left.left.left.left.head a3.head a3.tail.head a4 a5.head a6 a7.head ?_ ?_ hl (by omega) he
    · rw [tx_size, hz]; simp; omega
    · rw [tx_size]; simp; omega
set_option maxHeartbeats 4000000 in
theorem repeats_any (s : ByteArray) (lo more : Nat) (hlo : lo ≤ 255) (hmo : more ≤ 255) (w : World) : Calls Try.prog 3 #[.string s, .int .u8 (lo : Int), .int .u8 (more : Int)] w fun e w' => e = .returned (.bool true) ∧ Below w.heap.size w w' := by
  have wl : IntKind.u64.wrap (lo : Int) = (lo : Int) := by rw [IntKind.wrap_u64]; omega
  have wm : IntKind.u64.wrap (more : Int) = (more : Int) := by rw [IntKind.wrap_u64]; omega
  have vl : IntKind.i64.wrap (lo : Int) = (lo : Int) := by rw [IntKind.wrap_i64]; omega
  have vm : IntKind.i64.wrap (more : Int) = (more : Int) := by rw [IntKind.wrap_i64]; omega
  obtain ⟨hi, hhi⟩ : ∃ hi, hi = lo + more := ⟨_, rfl⟩
  have ws : IntKind.u64.wrap ((lo : Int) + (more : Int)) = (hi : Int) := by rw [IntKind.wrap_u64]; omega
  have vs : IntKind.i64.wrap ((lo : Int) + (more : Int)) = (hi : Int) := by rw [IntKind.wrap_i64]; omega
  have d1 := fun W => digits_any lo (by omega) W
  have d2 := fun W => digits_any hi (by omega) W
  have HHI := Lib.hid hhi
  clear hhi
  go_enter Try.func3, Try.ntmps3
  go_wp2_with fail
  refine (awake_any _).mono ?_
  rintro x w1 ⟨rfl, hb1⟩
  by_cases hs : s.size > 100
  · have hz : (s.size : Int) > 100 := by omega
    go_wp2_with fail
    refine (awake_any _).mono ?_
    rintro x w2 ⟨rfl, hb2⟩
    go_wp2
    go_ret
    exact ⟨rfl, ext_trans hb1 hb2⟩
  have hz : ¬ (s.size : Int) > 100 := by omega
  obtain ⟨D, E, u1, u2, u3, u4, u5, b, hg⟩ := rpT s (by omega) lo hi (by have := HHI.out; omega) (by have := HHI.out; omega)
  have a1 := hg.a1
  have a2 := hg.a2
  have a3 := hg.a3
  have a4 := hg.a4
  have a5 := hg.a5
  have a6 := hg.a6
  simp only [← hg.d] at d1
  simp only [← hg.e] at d2
  have HG := Lib.hid hg
  clear hg hs
  go_wp2_with fail
  refine (parse_q s w1).mono ?_
  rintro x w2 ⟨tk, t0, t1, t2, t3, tps, tlo, thi, At, ct, tpl, te, rfl, hp, hT, hb2⟩
  have bx : Bx w2.heap.size ⟨tk, ⟨t0, t1, t2, t3⟩, tps, tlo, thi⟩ At ct (w2.alloc (.cells #[.int .i64 tk, .int .u64 t0, .int .u64 t1, .int .u64 t2, .int .u64 t3, .slice At tps.length ct, .int .i64 tlo, .int .i64 thi] 28)) := Bx.new hT.out
  have hbw := (ext_trans hb1 hb2).alloc (ext_trans hb1 hb2).size (.cells #[.int .i64 tk, .int .u64 t0, .int .u64 t1, .int .u64 t2, .int .u64 t3, .slice At tps.length ct, .int .i64 tlo, .int .i64 thi] 28)
  obtain ⟨w3, hw3⟩ : ∃ w3, w3 = w2.alloc (.cells #[.int .i64 tk, .int .u64 t0, .int .u64 t1, .int .u64 t2, .int .u64 t3, .slice At tps.length ct, .int .i64 tlo, .int .i64 thi] 28) := ⟨_, rfl⟩
  rw [← hw3] at hbw bx
  have HBX := Lib.hid bx
  clear hb1 hb2 hT bx
  go_wp2_with fail
  rw [← hw3]
  clear hw3
  refine (d1 w3).mono ?_
  rintro x w3a ⟨rfl, hb3a⟩
  go_wp2_with fail
  refine (d2 w3a).mono ?_
  rintro x w3b ⟨rfl, hb3b⟩
  have HBXb := Lib.hid ((HBX.out.later hb3a).later hb3b)
  have hbwb := ext_trans (ext_trans hbw hb3a) hb3b
  clear hbw hb3a hb3b HBX d1 d2
  go_wp2_with fail
  refine (parse_q b w3b).mono ?_
  rintro x w4 ⟨yk, y0, y1, y2, y3, yps, ylo, yhi, Ay, cy, ypl, ye, rfl, hq, hT, hb4⟩
  have bx := HBXb.out.later hb4
  have by_ : Bx w4.heap.size ⟨yk, ⟨y0, y1, y2, y3⟩, yps, ylo, yhi⟩ Ay cy (w4.alloc (.cells #[.int .i64 yk, .int .u64 y0, .int .u64 y1, .int .u64 y2, .int .u64 y3, .slice Ay yps.length cy, .int .i64 ylo, .int .i64 yhi] 28)) := Bx.new hT.out
  have bx5 := bx.alloc (.cells #[.int .i64 yk, .int .u64 y0, .int .u64 y1, .int .u64 y2, .int .u64 y3, .slice Ay yps.length cy, .int .i64 ylo, .int .i64 yhi] 28)
  have hbw5 := (ext_trans hbwb hb4).alloc (ext_trans hbwb hb4).size (.cells #[.int .i64 yk, .int .u64 y0, .int .u64 y1, .int .u64 y2, .int .u64 y3, .slice Ay yps.length cy, .int .i64 ylo, .int .i64 yhi] 28)
  obtain ⟨w6, hw6⟩ : ∃ w6, w6 = w4.alloc (.cells #[.int .i64 yk, .int .u64 y0, .int .u64 y1, .int .u64 y2, .int .u64 y3, .slice Ay yps.length cy, .int .i64 ylo, .int .i64 yhi] 28) := ⟨_, rfl⟩
  rw [← hw6] at hbw5 bx5 by_
  have HBX5 := Lib.hid bx5
  have HBY := Lib.hid by_
  have HW6 := Lib.hid hw6
  clear hbwb hb4 hT bx by_ bx5 HBXb a1 a2 a3 a4 a5 a6
  by_cases he : te = 0
  · subst he
    have hps : (parseS s).e = 0 := by rw [hp.out]
    have h2 := HG.out.rep hps
    rw [hq.out, hp.out] at h2
    dsimp only at h2
    have hcnt := parse_cnt s
    rw [hp.out] at hcnt
    dsimp only at hcnt
    by_cases hw : wideT (timN ⟨tk, ⟨t0, t1, t2, t3⟩, tps, tlo, thi⟩ lo hi)
    · rw [if_pos hw] at h2
      injection h2 with _ _ hye
      subst hye
      rw [hw6] at hbw5
      clear hw6
      go_wp2
      go_ret
      exact ⟨rfl, hbw5⟩
    · rw [if_neg hw] at h2
      injection h2 with ht _ hye
      subst hye
      unfold timN at ht
      injection ht with k0 k1 k2 k3 k4
      injection k1 with j0 j1 j2 j3
      subst k0 j0 j1 j2 j3 k2 k3 k4
      obtain ⟨ad, A0, c0, hA0, hT0, e0, e1, e2, e3, e4, e5, e6, e7⟩ := HBY.out.tr.child 0 (by simp)
      subst hA0
      have hcy : 1 ≤ cy := HBY.out.tr.cap
      have hT0' : Tr w6 ⟨tk, ⟨t0, t1, t2, t3⟩, tps, tlo, thi⟩ A0 c0 := hT0
      obtain ⟨b0, b1, b2, b3, b4, b5, b6, b7⟩ := n_cells HBY.out.blk
      obtain ⟨d0, d1, d2, d3, d4, d5, d6, d7⟩ := n_cells HBX5.out.blk
      have q1 := fun d os => Calls.regrown_of (tr_refSame ⟨tk, ⟨t0, t1, t2, t3⟩, tps, tlo, thi⟩ ⟨tk, ⟨t0, t1, t2, t3⟩, tps, tlo, thi⟩ A0 At c0 ct (Go.Sort.grow (redrawn w6 d) os) hcnt (hT0'.below (below_regrown w6 d os)) (HBX5.out.tr.below (below_regrown w6 d os)))
      rw [same_refl] at q1
      unfold ndV at q1
      have s0 := cell_regrown b0
      have s5 := cell_regrown b5
      have s6 := cell_regrown b6
      have s7 := cell_regrown b7
      have kd0 := cell_regrown d0
      have kd1 := cell_regrown d1
      have kd2 := cell_regrown d2
      have kd3 := cell_regrown d3
      have kd4 := cell_regrown d4
      have kd5 := cell_regrown d5
      have kd6 := cell_regrown d6
      have kd7 := cell_regrown d7
      have ke0 := cell_regrown (show w6.cell? ad = some _ from e0)
      have ke1 := cell_regrown (show w6.cell? ⟨ad.block, ad.off + 1, none⟩ = some _ from e1)
      have ke2 := cell_regrown (show w6.cell? ⟨ad.block, ad.off + 2, none⟩ = some _ from e2)
      have ke3 := cell_regrown (show w6.cell? ⟨ad.block, ad.off + 3, none⟩ = some _ from e3)
      have ke4 := cell_regrown (show w6.cell? ⟨ad.block, ad.off + 4, none⟩ = some _ from e4)
      have ke5 := cell_regrown (show w6.cell? ⟨ad.block, ad.off + 5, none⟩ = some _ from e5)
      have ke6 := cell_regrown (show w6.cell? ⟨ad.block, ad.off + 6, none⟩ = some _ from e6)
      have ke7 := cell_regrown (show w6.cell? ⟨ad.block, ad.off + 7, none⟩ = some _ from e7)
      clear b0 b1 b2 b3 b4 b5 b6 b7 d0 d1 d2 d3 d4 d5 d6 d7 e0 e1 e2 e3 e4 e5 e6 e7 hT0 hT0' hw hp hq hcnt HG
      have hw6' : w4.alloc (.cells #[.int .i64 4, .int .u64 0, .int .u64 0, .int .u64 0, .int .u64 0, .slice (some ad) 1 cy, .int .i64 (lo : Int), .int .i64 (hi : Int)] 28) = w6 := hw6.symm
      have HW := Lib.hid hw6'
      clear hw6 hw6' HW6
      go_wp2_with fail
      rw [HW.out]
      clear HW
      refine wp_region_quiet_below (by kernel_rfl) (by kernel_rfl) ?_
      repeat (quiet_step (fail))
      quiet_step (exact q1 _ _)
      repeat (quiet_step (fail))
      refine wpQuiet_nil ?_
      intro _ hw'
      obtain ⟨⟨dq, osq⟩, hw''⟩ := hw'
      subst hw''
      go_wp2
      go_ret
      exact ⟨rfl, ext_trans hbw5 (below_regrown w6 dq osq)⟩
  · have hez : (te == 0) = false := by simpa using he
    have hez2 : (te != 0) = true := by simpa using he
    rw [hw6] at hbw5
    clear hw6
    go_wp2
    go_ret
    exact ⟨rfl, hbw5⟩
theorem wf_u8 {n : Int} (h : (Lit.int .u8 n).wf = true) : ∃ k : Nat, n = (k : Int) ∧ k ≤ 255 := by
  simp [Lit.wf, IntKind.min, IntKind.max, IntKind.signed, IntKind.bits] at h
  exact ⟨n.toNat, by omega, by omega⟩
end Go.Proofs.Ytmkcbbamfkafmaa.P
