/- ClassWhole: the walk. -/
import Derived.Test.YthknfjiggdkcaaaDoorPt12
import Derived.Deep.DeepCutAuto
import Derived.Deep.LoopGhost
namespace Go.Proofs.YthknfjiggdkcaaaDoor
open Go.RowKit Go.Maps
set_option linter.unusedVariables false
set_option linter.unusedSimpArgs false
theorem at4 {w : World} {A : Option Addr} {c : Nat} {l : List Cw} (h : Cs w A c l) {j : Nat} (hj : j < l.length) : ∃ ad, A = some ad ∧ ∀ W, Below w.heap.size w W → W.cell? (ad.add (j * 4)) = some (.int .u64 (clAt l j 0)) ∧ W.cell? ⟨(ad.add (j * 4)).block, (ad.add (j * 4)).off + 1, none⟩ = some (.int .u64 (clAt l j 1)) ∧
    W.cell? ⟨(ad.add (j * 4)).block, (ad.add (j * 4)).off + 2, none⟩ = some (.int .u64 (clAt l j 2)) ∧ W.cell? ⟨(ad.add (j * 4)).block, (ad.add (j * 4)).off + 3, none⟩ = some (.int .u64 (clAt l j 3)) := by
  obtain ⟨ad, rfl, _⟩ := h.at_ hj
  exact ⟨ad, rfl, fun W hW => (h.below hW).cell ad rfl j hj⟩
set_option maxHeartbeats 16000000 in
theorem classWhole_any (l : List Cw) (hl : AllW l) (A : Option Addr) (c : Nat) (w : World) (hs : Cs w A c l) (hall : w.cell? ⟨0, 0, none⟩ = some (.int .i64 256)) :
    Calls Tryd.prog 6 #[.slice A l.length c] w fun e w' => e = .returned (.bool true) ∧ Below w.heap.size w w' := by
  have hcap := hs.cap
  have hmax := hs.max
  have HL := Lib.hid hl
  clear hl
  go_enter Tryd.func6, Tryd.ntmps6
  go_wp2_with fail
  refine (awake_any _).mono ?_
  rintro e w0 ⟨rfl, hb0⟩
  by_cases hn : 40 < l.length
  · have hnz : (l.length : Int) > 40 := by omega
    go_wp2_with fail
    refine (awake_any _).mono ?_
    rintro e w1 ⟨rfl, hb1⟩
    go_wp2
    go_ret
    exact ⟨rfl, ext_trans hb0 hb1⟩
  have hnz : ¬ (l.length : Int) > 40 := by omega
  have hp := parts_any l HL.out (by omega) A c w0 (hs.below hb0) ((hb0.cell (World.block_lt_of_cell? w _ hall)).trans hall)
  clear hall
  go_wp2_with fail
  refine hp.mono ?_
  rintro e w1 ⟨v1, b1, rfl, hbs, hS, hb1⟩
  clear hp
  have hbw := ext_trans hb0 hb1
  have hs1 := hs.below hbw
  obtain ⟨xs, x1, x2, x3, x4⟩ := hS
  obtain ⟨A1, c1, rfl, hx1⟩ := own_cs x4
  have k1 := hx1.cap
  have k2 := hx1.max
  have hst := fun (i : Nat) (hi : i < xs.length) => stp x1 x2 x3 hi
  have hwh := fun (i k : Nat) (hi : i < xs.length) (hk : k < l.length) => whl x1 x2 x3 HL.out hi hk
  have HST := Lib.hid hst
  have HWH := Lib.hid hwh
  have HFU := Lib.hid (sum_full x1)
  have HNF := Lib.hid (fun W => empty_c (fun j => notw (clsOf (sumF l xs.length) j)) (not_cls (w64_clsOf (sumF l xs.length))).1 W)
  have HNE := Lib.hid (not_full x1)
  clear hst hwh x1 x2 x3 x4 hb0 hb1 hs
  obtain ⟨w2, hw2⟩ : ∃ w2, w2 = w1.alloc (.cells #[.int .u64 0, .int .u64 0, .int .u64 0, .int .u64 0] 24) := ⟨_, rfl⟩
  have hrow : w2.rowIs w1.heap.size 24 4 (fun j => .int .u64 (clsOf (sumF l 0) j)) := by
    rw [hw2]
    refine (row4_new w1 (fun _ => .int .u64 0) 24).congr fun j hj => ?_
    rw [sum_none l j hj]
  have hb2 : Below w1.heap.size w1 w2 := by rw [hw2]; exact (Below.refl _ w1).alloc (Nat.le_refl _) _
  go_wp2_with fail
  rw [← hw2]
  clear hw2
  go_loopg [5, 6] xs.length (fun gg nv iv wr => ∃ i : Nat, i ≤ xs.length ∧ xs.length - i ≤ gg ∧ iv = .int .i64 i ∧ nv = .int .i64 ((cnt (sumF l i) 256 : Nat) : Int) ∧ wr.rowIs w1.heap.size 24 4 (fun j => .int .u64 (clsOf (sumF l i) j)) ∧ Below w1.heap.size w1 wr)
  case atStart => exact ⟨0, by omega, by omega, rfl, by rw [cnt_zero 256 fun q _ => by simp [sumF]]; rfl, hrow, hb2⟩
  case round =>
    obtain ⟨i, hi, hgg, rfl, rfl, hr, hb⟩ := hrel
    clear hrow hb2
    by_cases hlt : i < xs.length
    · have hlz : (i : Int) < (xs.length : Int) := by omega
      have st := HST.out i hlt
      obtain ⟨ad, hA1, hpc⟩ := at4 hx1 hlt
      subst hA1
      have cn := sum_le l i
      have cn2 := sum_le l (i + 1)
      obtain ⟨n0, hn0⟩ : ∃ n, n = cnt (sumF l i) 256 := ⟨_, rfl⟩
      obtain ⟨n1, hn1⟩ : ∃ n, n = cnt (sumF l (i + 1)) 256 := ⟨_, rfl⟩
      obtain ⟨d, hd⟩ : ∃ d : Int, d = (n1 : Int) - (n0 : Int) := ⟨_, rfl⟩
      obtain ⟨pv, hpv⟩ : ∃ pv, pv = clAt xs i := ⟨_, rfl⟩
      obtain ⟨yv, hyv⟩ : ∃ yv, yv = clsOf (sumF l i) := ⟨_, rfl⟩
      obtain ⟨zv, hzv⟩ : ∃ zv, zv = clsOf (sumF l (i + 1)) := ⟨_, rfl⟩
      have wh := fun (k : Nat) (hk : k < l.length) => HWH.out i k hlt hk
      obtain ⟨se1, san, se2, or_, sz⟩ := st
      rw [← hyv, ← hpv] at san se2
      rw [← hpv] at se1
      rw [← hyv, ← hpv, ← hzv] at or_
      rw [← hpv, ← hn0, ← hn1, ← hd] at sz
      rw [← hpv] at hpc
      simp only [← hpv] at wh
      rw [← hyv] at hr
      rw [← hn0] at cn ⊢
      rw [← hn1] at cn2
      have hwd : IntKind.i64.wrap ((n0 : Int) + d) = (n1 : Int) := by rw [IntKind.wrap_i64]; omega
      have HSE := Lib.hid se1
      have HN1 := Lib.hid hn1
      have HZV := Lib.hid hzv
      have HP := Lib.hid hpc
      have HR := Lib.hid hr
      have HWK := Lib.hid wh
      have e1 := fun d os => Calls.regrown_of (se1 (Go.Sort.grow (redrawn wr d) os))
      have an := fun d os => Calls.regrown_of (san (Go.Sort.grow (redrawn wr d) os))
      have e2 := fun d os => Calls.regrown_of (se2 (Go.Sort.grow (redrawn wr d) os))
      obtain ⟨s0, s1, s2, s3, _⟩ := row4 hr
      obtain ⟨t0, t1, t2, t3⟩ := hpc wr hb
      have r0 := cell_regrown s0
      have r1 := cell_regrown s1
      have r2 := cell_regrown s2
      have r3 := cell_regrown s3
      have u0 := cell_regrown t0
      have u1 := cell_regrown t1
      have u2 := cell_regrown t2
      have u3 := cell_regrown t3
      clear hpc hr wh hn0 hn1 hd hpv hyv hzv se1 san se2
      go_wp2_with fail
      clear s0 s1 s2 s3 t0 t1 t2 t3
      refine wp_region_quiet_below (by kernel_rfl) (by kernel_rfl) ?_
      repeat (quiet_step (fail))
      quiet_step (exact e1 _ _)
      repeat (quiet_step (fail))
      quiet_step (exact an _ _)
      repeat (quiet_step (fail))
      quiet_step (exact e2 _ _)
      repeat (quiet_step (fail))
      refine wpQuiet_nil ?_
      intro _ hw'
      obtain ⟨⟨dq, osq⟩, hw''⟩ := hw'
      subst hw''
      have hb9 := below_regrown wr dq osq
      obtain ⟨w9, hw9⟩ : ∃ w9, w9 = Go.Sort.grow (redrawn wr dq) osq := ⟨_, rfl⟩
      rw [← hw9] at hb9 ⊢
      clear hw9 e1 an e2 r0 r1 r2 r3 u0 u1 u2 u3
      have hb19 : Below w1.heap.size w1 w9 := ext_trans hb hb9
      have hrb : ∀ W, Below w9.drew.heap.size w9.drew W → W.rowIs w1.heap.size 24 4 (fun j => .int .u64 (yv j)) := fun W hW => row_below (row_below HR.out hb9) ⟨hW.os, hW.tape, hW.output, hW.size, hW.block⟩
      have hbn : ∀ W, Below w9.drew.heap.size w9.drew W → Below w1.heap.size w1 W := fun W hW => ext_trans hb19 ⟨hW.os, hW.tape, hW.output, hW.size, hW.block⟩
      obtain ⟨s0, s1, s2, s3, _⟩ := row4 (row_below HR.out hb9)
      obtain ⟨t0, t1, t2, t3⟩ := HP.out w9 hb19
      clear hb
      go_upto_region 11 with fail
      go_cut [] (fun wx => wx.rowIs w1.heap.size 24 4 (fun j => .int .u64 (zv j)) ∧ Below w1.heap.size w1 wx)
      case first =>
        go_region_law (first
          | (go_simp; go_at_call 8; refine (or_ _).mono ?_; rintro e w11 ⟨rfl, hb11⟩; have hb11' := hbn _ hb11; have hr11 := hrb _ hb11; obtain ⟨q0, q1, q2, q3, f0, f1, f2, f3⟩ := row4 hr11))
        all_goals
          have hr12 := row4_set hr11 (fun j => .int .u64 (zv j))
          have hb12 := below_set4 hb11' (Nat.le_refl w1.heap.size) (fun j => .int .u64 (zv j))
          go_wp2_with fail
          go_meet
          exact ⟨hr12, hb12⟩
      case rest =>
        obtain ⟨hr12', hb12'⟩ := hcut
        clear s0 s1 s2 s3 t0 t1 t2 t3 hrb hbn hb9 hb19 or_
        obtain ⟨w12, hw12⟩ : ∃ w12, w12 = wc := ⟨_, rfl⟩
        rw [← hw12] at hr12' hb12' ⊢
        clear hw12
        obtain ⟨t0, t1, t2, t3⟩ := HP.out w12 hb12'
        go_wp2_with fail
        refine (sz w12).mono ?_
        rintro e w13 ⟨rfl, hb13⟩
        have hr13 := row_below hr12' hb13
        have hb113 := ext_trans hb12' hb13
        clear t0 t1 t2 t3 hb13 hr12' hb12' sz
        have HR13 := Lib.hid hr13
        clear hr13
        go_wp2_with fail
        go_loopg [7] l.length (fun gg kv wi => ∃ k : Nat, k ≤ l.length ∧ l.length - k ≤ gg ∧ kv = .int .i64 k ∧ Below w13.heap.size w13 wi)
        case atStart => exact ⟨0, by omega, by omega, rfl, Below.refl _ _⟩
        case round =>
          obtain ⟨k, hk, hgk, rfl, hbi⟩ := hrel
          by_cases hkl : k < l.length
          · have hkz : (k : Int) < (l.length : Int) := by omega
            obtain ⟨bd, hA2, hac⟩ := at4 hs1 hkl
            subst hA2
            have hb1i := ext_trans hb113 hbi
            obtain ⟨av, hav⟩ : ∃ av, av = clAt l k := ⟨_, rfl⟩
            have whk := HWK.out k hkl
            rw [← hav] at hac whk
            have hA := fun W => and_v (av 0) (av 1) (av 2) (av 3) (pv 0) (pv 1) (pv 2) (pv 3) W
            have hbn1 : ∀ W, Below wr.drew.heap.size wr.drew W → Below wr.heap.size wr W := fun W hW => ⟨hW.os, hW.tape, hW.output, hW.size, hW.block⟩
            have hbd : ∀ o, Below wr.heap.size wr (wr.alloc o).drew := fun o => ((Below.refl _ wr).alloc (Nat.le_refl _) o).drew
            have hbn2 : ∀ W, Below (wr.alloc (.cells #[.int .u64 0, .int .u64 0, .int .u64 0, .int .u64 0] 24)).drew.heap.size (wr.alloc (.cells #[.int .u64 0, .int .u64 0, .int .u64 0, .int .u64 0] 24)).drew W → Below wr.heap.size wr W ∧ W.rowIs wr.heap.size 24 4 (fun _ => .int .u64 0) := fun W hW =>
              ⟨ext_trans (hbd _) hW, (row4_new wr (fun _ => .int .u64 0) 24).of_block (hW.block wr.heap.size (by show wr.heap.size < (wr.alloc (.cells #[.int .u64 0, .int .u64 0, .int .u64 0, .int .u64 0] 24)).heap.size; simp))⟩
            have hdo : ∀ o, Below w1.heap.size w1 (wr.alloc o).drew := fun o => ext_trans hb1i (hbd o)
            have ao := fun o => hac _ (hdo o)
            have po := fun o => HP.out _ (hdo o)
            have ao0 := fun o => (ao o).1
            have ao1 := fun o => (ao o).2.1
            have ao2 := fun o => (ao o).2.2.1
            have ao3 := fun o => (ao o).2.2.2
            have po0 := fun o => (po o).1
            have po1 := fun o => (po o).2.1
            have po2 := fun o => (po o).2.2.1
            have po3 := fun o => (po o).2.2.2
            obtain ⟨a0, a1, a2, a3⟩ := hac wr hb1i
            obtain ⟨t0, t1, t2, t3⟩ := HP.out wr hb1i
            have HWKK := Lib.hid whk
            clear ao po hdo hbd hac hav whk
            go_upto_region 16 with fail
            go_cut [8] (fun s8 wx => ∃ G, s8 = .pointer (some ⟨G, 0, none⟩) ∧ wx.rowIs G 24 4 (fun j => .int .u64 (andw (av j) (pv j))) ∧ Below wr.heap.size wr wx)
            case first =>
              go_region_law (first
                | (go_simp; go_at_call 7; refine (hA _).mono ?_; rintro e w16 ⟨rfl, hb16⟩; have hb16' := hbn1 _ hb16)
                | (go_simp; go_at_call 7; refine (hA _).mono ?_; rintro e w16 ⟨rfl, hb16⟩; obtain ⟨hb16', hz16⟩ := hbn2 _ hb16; obtain ⟨q0, q1, q2, q3, f0, f1, f2, f3⟩ := row4 hz16))
              all_goals first
                | (have hrx := row4_set hz16 (fun j => .int .u64 (andw (av j) (pv j)))
                   have hbx := below_set4 hb16' (Nat.le_refl wr.heap.size) (fun j => .int .u64 (andw (av j) (pv j)))
                   go_wp2_with fail
                   go_meet
                   exact ⟨_, rfl, hrx, hbx⟩)
                | (have hrx := row4_new w16 (fun j => .int .u64 (andw (av j) (pv j))) 24
                   have hbx := hb16'.alloc hb16'.size (.cells #[.int .u64 (andw (av 0) (pv 0)), .int .u64 (andw (av 1) (pv 1)), .int .u64 (andw (av 2) (pv 2)), .int .u64 (andw (av 3) (pv 3))] 24)
                   go_wp2_with fail
                   go_meet
                   exact ⟨_, rfl, hrx, hbx⟩)
            case rest =>
              obtain ⟨G, rfl, hX, hB⟩ := hcut
              obtain ⟨WF, hWF⟩ : ∃ WF, WF = wc := ⟨_, rfl⟩
              rw [← hWF] at hX hB ⊢
              clear hWF
              have hp1 := ext_trans hb1i hB
              obtain ⟨c0, c1, c2, c3, _⟩ := row4 hX
              obtain ⟨t0, t1, t2, t3⟩ := HP.out WF hp1
              clear hA hbn1 hbn2 ao0 ao1 ao2 ao3 po0 po1 po2 po3 a0 a1 a2 a3 hp1 hX
              rcases HWKK.out with hE | ⟨m0, m1, m2, m3⟩
              · have em := fun d os => Calls.regrown_of (hE (Go.Sort.grow (redrawn WF d) os))
                have r0 := cell_regrown c0
                have r1 := cell_regrown c1
                have r2 := cell_regrown c2
                have r3 := cell_regrown c3
                clear hE c0 c1 c2 c3 t0 t1 t2 t3 HWKK
                go_wp2_with fail
                refine wp_region_quiet_below (by kernel_rfl) (by kernel_rfl) ?_
                repeat (quiet_step (fail))
                quiet_step (exact em _ _)
                repeat (quiet_step (fail))
                refine wpQuiet_nil ?_
                intro _ hw'
                obtain ⟨⟨dq, osq⟩, hw''⟩ := hw'
                subst hw''
                go_wp2
                go_roundg (l.length - (k + 1))
                case measure => omega
                case rel => exact ⟨k + 1, by omega, Nat.le_refl _, by go_num, ext_trans hbi (ext_trans hB (below_regrown WF dq osq))⟩
              · rw [m0] at c0
                rw [m1] at c1
                rw [m2] at c2
                rw [m3] at c3
                have em := fun d os => Calls.regrown_of (HSE.out (Go.Sort.grow (redrawn WF d) os))
                have r0 := cell_regrown c0
                have r1 := cell_regrown c1
                have r2 := cell_regrown c2
                have r3 := cell_regrown c3
                have u0 := cell_regrown t0
                have u1 := cell_regrown t1
                have u2 := cell_regrown t2
                have u3 := cell_regrown t3
                have heq := eqC
                clear m0 m1 m2 m3 c0 c1 c2 c3 t0 t1 t2 t3 HWKK
                go_wp2_with fail
                refine wp_region_quiet_below (by kernel_rfl) (by kernel_rfl) ?_
                repeat (quiet_step (fail))
                quiet_step (exact em _ _)
                repeat (quiet_step (fail))
                refine wpQuiet_nil ?_
                intro _ hw'
                obtain ⟨⟨dq, osq⟩, hw''⟩ := hw'
                subst hw''
                go_wp2
                go_roundg (l.length - (k + 1))
                case measure => omega
                case rel => exact ⟨k + 1, by omega, Nat.le_refl _, by go_num, ext_trans hbi (ext_trans hB (below_regrown WF dq osq))⟩
          · obtain rfl : k = l.length := by omega
            have hkz : ¬ (l.length : Int) < (l.length : Int) := by omega
            go_wp2
            go_roundg (xs.length - (i + 1))
            case measure => omega
            case rel => exact ⟨i + 1, by omega, Nat.le_refl _, by go_num, by rw [HN1.out], by rw [← HZV.out]; exact row_below HR13.out hbi, ext_trans hb113 hbi⟩
    · obtain rfl : i = xs.length := by omega
      have hlz : ¬ (xs.length : Int) < (xs.length : Int) := by omega
      have hfu := HFU.out
      rw [hfu]
      obtain ⟨yv, hyv⟩ : ∃ yv, yv = clsOf (sumF l xs.length) := ⟨_, rfl⟩
      rw [← hyv] at hr
      have hno := fun W => not_v (yv 0) (yv 1) (yv 2) (yv 3) W
      have hem := HNF.out
      rw [HNE.out] at hem
      rw [← hyv] at hem
      obtain ⟨s0, s1, s2, s3, _⟩ := row4 hr
      clear hr hyv hfu HNF
      go_wp2_with fail
      refine (hno _).mono ?_
      rintro e w20 ⟨rfl, hb20⟩
      go_wp2_with fail
      refine (hem _).mono ?_
      rintro e w21 ⟨rfl, hb21⟩
      go_wp2
      go_ret
      exact ⟨rfl, ext_trans hbw (ext_trans (ext_trans hb hb20) hb21)⟩
end Go.Proofs.YthknfjiggdkcaaaDoor
