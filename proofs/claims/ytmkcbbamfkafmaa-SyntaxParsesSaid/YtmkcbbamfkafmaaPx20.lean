import Derived.Test.YtmkcbbamfkafmaaPx0
import Derived.Test.YtmkcbbamfkafmaaPx17
-- Written by a program of this project (wip/xp over the words of the print), not by hand.
namespace Go.Proofs.Ytmkcbbamfkafmaa.P
open Go.RowKit Go.Proofs.YtmkcbbamfkafmaaW.PrintWords Go.Proofs.YtmkcbbamfkafmaaW.PrintLast Go.Proofs.YtmkcbbamfkafmaaW.PrintMore
attribute [local go_sem] max2_int min2_int max_two min_two max_three min_three max_four min_four   -- for this text's walks alone
set_option linter.unusedVariables false
set_option linter.unusedSimpArgs false

/-! ### ostinatoref02_Reader_number: function 56 -/
mutual
def ostinatoref02_Reader_number.l0 : Nat → Int → Int → ByteArray → Int → Int → Int → Option (Int × ByteArray × Int × Int × Int)
  | 0, _, _, _, _, _, _ => none
  | k + 1, x3, x4, x1000, x1001, x1002, x1003 => (ostinatoref02_Reader_next.f x1000 x1001 x1002 x1003).bind fun bt295 => (if bt295.1 ≥ 48 then ((ostinatoref02_Reader_next.f bt295.2.1 bt295.2.2.1 bt295.2.2.2.1 bt295.2.2.2.2).bind fun bt300 => (ostinatoref02_Reader_number.j1 k x3 x4 (decide (bt300.1 ≤ 57)) bt300.2.1 bt300.2.2.1 bt300.2.2.2.1 bt300.2.2.2.2)) else (ostinatoref02_Reader_number.j1 k x3 x4 false bt295.2.1 bt295.2.2.1 bt295.2.2.2.1 bt295.2.2.2.2))
def ostinatoref02_Reader_number.j1 : Nat → Int → Int → Bool → ByteArray → Int → Int → Int → Option (Int × ByteArray × Int × Int × Int)
  | 0, _, _, _, _, _, _, _ => none
  | k + 1, x3, x4, x16, x1000, x1001, x1002, x1003 => if x16 = true then (if x4 ≤ 2147483647 then ((ostinatoref02_Reader_next.f x1000 x1001 x1002 x1003).bind fun bt305 => (ostinatoref02_Reader_number.l0 k x3 (wrap64 ((wrap64 (10 * x4)) + (wrap64 (bt305.1 - 48)))) bt305.2.1 (wrap64 (bt305.2.2.1 + 1)) bt305.2.2.2.1 bt305.2.2.2.2)) else (ostinatoref02_Reader_number.l0 k x3 x4 x1000 (wrap64 (x1001 + 1)) x1002 x1003)) else (if x1001 = x3 then ((ostinatoref02_Reader_fail.f x1000 x1001 x1002 x1003 x3 2).bind fun bt310 => (if x4 > 2147483647 then ((ostinatoref02_Reader_fail.f bt310.1 bt310.2.1 bt310.2.2.1 bt310.2.2.2 x3 3).bind fun bt314 => (some (x4, bt314.1, bt314.2.1, bt314.2.2.1, bt314.2.2.2))) else (some (x4, bt310.1, bt310.2.1, bt310.2.2.1, bt310.2.2.2)))) else (if x4 > 2147483647 then ((ostinatoref02_Reader_fail.f x1000 x1001 x1002 x1003 x3 3).bind fun bt318 => (some (x4, bt318.1, bt318.2.1, bt318.2.2.1, bt318.2.2.2))) else (some (x4, x1000, x1001, x1002, x1003))))
end
def ostinatoref02_Reader_number.f (k : Nat) (s0_0 : ByteArray) (s0_1 : Int) (s0_2 : Int) (s0_3 : Int) : Option (Int × ByteArray × Int × Int × Int) := ostinatoref02_Reader_number.l0 k s0_1 0 s0_0 s0_1 s0_2 s0_3
theorem ostinatoref02_Reader_number.mono_l : ∀ k, (∀ y0 y1 y2 y3 y4 y5, LeO (ostinatoref02_Reader_number.l0 k y0 y1 y2 y3 y4 y5) (ostinatoref02_Reader_number.l0 (k + 1) y0 y1 y2 y3 y4 y5)) ∧ (∀ y0 y1 y2 y3 y4 y5 y6, LeO (ostinatoref02_Reader_number.j1 k y0 y1 y2 y3 y4 y5 y6) (ostinatoref02_Reader_number.j1 (k + 1) y0 y1 y2 y3 y4 y5 y6))
  | 0 => ⟨fun _ _ _ _ _ _ r h => by simp [ostinatoref02_Reader_number.l0] at h, fun _ _ _ _ _ _ _ r h => by simp [ostinatoref02_Reader_number.j1] at h⟩
  | k + 1 => by
    obtain ⟨ih0, ih1⟩ := ostinatoref02_Reader_number.mono_l k
    refine ⟨?_, ?_⟩
    · intro y0 y1 y2 y3 y4 y5
      unfold ostinatoref02_Reader_number.l0
      repeat' first
      | (with_reducible exact ih0 _ _ _ _ _ _)
      | (with_reducible exact ih1 _ _ _ _ _ _ _)
      | (with_reducible exact LeO.refl _)
      | (with_reducible exact LeO.none _)
      | (with_reducible refine LeO.ite ?_ ?_)
      | (with_reducible refine LeO.bind ?_ (fun _ => ?_))
      | exact ih0 _ _ _ _ _ _
      | exact ih1 _ _ _ _ _ _ _
      | exact LeO.none _
      | refine LeO.ite ?_ ?_
      | refine LeO.bind ?_ (fun _ => ?_)
    · intro y0 y1 y2 y3 y4 y5 y6
      unfold ostinatoref02_Reader_number.j1
      repeat' first
      | (with_reducible exact ih0 _ _ _ _ _ _)
      | (with_reducible exact ih1 _ _ _ _ _ _ _)
      | (with_reducible exact LeO.refl _)
      | (with_reducible exact LeO.none _)
      | (with_reducible refine LeO.ite ?_ ?_)
      | (with_reducible refine LeO.bind ?_ (fun _ => ?_))
      | exact ih0 _ _ _ _ _ _
      | exact ih1 _ _ _ _ _ _ _
      | exact LeO.none _
      | refine LeO.ite ?_ ?_
      | refine LeO.bind ?_ (fun _ => ?_)
theorem ostinatoref02_Reader_number.mono : ∀ a0 a1 a2 a3 k, LeO (ostinatoref02_Reader_number.f k a0 a1 a2 a3) (ostinatoref02_Reader_number.f (k + 1) a0 a1 a2 a3) := by
  intro a0 a1 a2 a3 k
  obtain ⟨ih0, ih1⟩ := ostinatoref02_Reader_number.mono_l k
  unfold ostinatoref02_Reader_number.f
  repeat' first
      | (with_reducible exact ih0 _ _ _ _ _ _)
      | (with_reducible exact ih1 _ _ _ _ _ _ _)
      | (with_reducible exact LeO.refl _)
      | (with_reducible exact LeO.none _)
      | (with_reducible refine LeO.ite ?_ ?_)
      | (with_reducible refine LeO.bind ?_ (fun _ => ?_))
      | exact ih0 _ _ _ _ _ _
      | exact ih1 _ _ _ _ _ _ _
      | exact LeO.none _
      | refine LeO.ite ?_ ?_
      | refine LeO.bind ?_ (fun _ => ?_)
set_option maxHeartbeats 8000000 in
set_option maxRecDepth 100000 in
theorem ostinatoref02_Reader_number.calls (k : Nat) (g : Nat) (s0_0 : ByteArray) (s0_1 : Int) (s0_2 : Int) (s0_3 : Int) (r1 : Int) (r2 : ByteArray) (r3 : Int) (r4 : Int) (r5 : Int) (w0 w : World) (hI : IsS56 w0 w g s0_0 s0_1 s0_2 s0_3) (hB : Below w0.heap.size w0 w) (h : ostinatoref02_Reader_number.f k s0_0 s0_1 s0_2 s0_3 = some (r1, r2, r3, r4, r5)) :
    Calls Try.prog 56 #[.pointer (some ⟨g, 0, none⟩)] w fun e w' => e = .returned (.int .i64 r1) ∧ IsS56 w0 w' g r2 r3 r4 r5 ∧ Below w0.heap.size w0 w' ∧ KeepBut w w' g none := by
  have HI0 := Aside0.mk hI
  have HK := Aside0.mk (KeepBut.refl w g none)
  have HL := Aside0.mk hB.size
  clear hI
  have HW0 := Aside0.mk hB.size
  have HB := Aside0.mk hB
  clear hB
  have H : (ostinatoref02_Reader_number.l0 k s0_1 0 s0_0 s0_1 s0_2 s0_3) = some (r1, r2, r3, r4, r5) := h
  clear h
  have H' := Aside0.mk H
  clear H
  obtain ⟨HGz2, hgz2⟩ := HI0.out
  have hcz2_0 := cellS56_0 HGz2
  have hcz2_1 := cellS56_1 HGz2
  have hcz2_2 := cellS56_2 HGz2
  have hcz2_3 := cellS56_3 HGz2
  have hfz2_0 := blk_frozen HGz2 0
  have hfz2_1 := blk_frozen HGz2 1
  have hfz2_2 := blk_frozen HGz2 2
  have hfz2_3 := blk_frozen HGz2 3
  clear HGz2 hgz2
  go_enter Try.func56, Try.ntmps56
  go_wp2
  go_loopg [4] k (fun kq v4 w' => ∃ (x4_1 : Int) (x1000_1 : ByteArray) (x1001_1 : Int) (x1002_1 : Int) (x1003_1 : Int), v4 = .int .i64 x4_1 ∧ Aside0 (ostinatoref02_Reader_number.l0 kq s0_1 x4_1 x1000_1 x1001_1 x1002_1 x1003_1 = some (r1, r2, r3, r4, r5)) ∧ Aside0 (kq ≤ k) ∧ Aside0 (IsS56 w0 w' g x1000_1 x1001_1 x1002_1 x1003_1) ∧ Aside0 (KeepBut w w' g none) ∧ Aside0 (Below w0.heap.size w0 w'))
  case atStart => exact ⟨(0), (s0_0), (s0_1), (s0_2), (s0_3), (by first | rfl | (simp; done) | (simp [*]; done)), H', ⟨Nat.le_refl _⟩, ⟨by repeat (first | (with_reducible first | exact HI0.out | apply IsS56.alloc | apply IsS56.drewN | apply IsS56.drew | apply IsS56.set_0 | apply IsS56.set_1 | apply IsS56.set_2 | apply IsS56.set_3) | exact HI0.out)⟩, ⟨by repeat (first | (with_reducible first | exact HK.out | apply KeepBut.set_ | apply keep_drewN | apply keep_drew | apply keep_alloc) | exact HK.out)⟩, ⟨by repeat (first | (with_reducible first | exact HB.out | apply below_alloc | apply pw_below_drewN | apply below_drew1 | refine below_set ?_ (IsS56.ge HI0.out)) | exact HB.out)⟩⟩
  case round =>
    clear H'
    try clear p2
    try clear hcz2_0
    try clear hcz2_1
    try clear hcz2_2
    try clear hcz2_3
    try clear hfz2_0
    try clear hfz2_1
    try clear hfz2_2
    try clear hfz2_3
    obtain ⟨x4_1, x1000_1, x1001_1, x1002_1, x1003_1, rfl, HA, HK1, HI0, HK, HB⟩ := hrel
    cases gk with
    | zero => exact absurd HA.out (by simp [ostinatoref02_Reader_number.l0])
    | succ k1 =>
      have H := HA.out
      clear HA
      simp only [ostinatoref02_Reader_number.l0] at H
      have HC3 := Aside0.mk H
      clear H
      go_upto_region 3 with (fail)
      go_cut [16] (fun v16 wc => ∃ (kq : Nat) (x16_2 : Bool) (x1000_2 : ByteArray) (x1001_2 : Int) (x1002_2 : Int) (x1003_2 : Int), v16 = .bool x16_2 ∧ Aside0 (ostinatoref02_Reader_number.j1 kq s0_1 x4_1 x16_2 x1000_2 x1001_2 x1002_2 x1003_2 = some (r1, r2, r3, r4, r5)) ∧ Aside0 (kq ≤ k1) ∧ Aside0 (IsS56 w0 wc g x1000_2 x1001_2 x1002_2 x1003_2) ∧ Aside0 (KeepBut w wc g none) ∧ Aside0 (Below w0.heap.size w0 wc))
      case first =>
        have H := HC3.out
        clear HC3
        replace H := Option.bind_eq_some_iff.mp H
        obtain ⟨⟨t295, t296, t297, t298, t299⟩, A40, H⟩ := H
        replace H : (if t295 ≥ 48 then ((ostinatoref02_Reader_next.f t296 t297 t298 t299).bind fun bt300 => (ostinatoref02_Reader_number.j1 k1 s0_1 x4_1 (decide (bt300.1 ≤ 57)) bt300.2.1 bt300.2.2.1 bt300.2.2.2.1 bt300.2.2.2.2)) else (ostinatoref02_Reader_number.j1 k1 s0_1 x4_1 false t296 t297 t298 t299)) = some (r1, r2, r3, r4, r5) := H
        have A4 := Aside0.mk A40
        clear A40
        by_cases c5 : t295 ≥ 48
        · rw [if_pos c5] at H
          have c5b0 : decide (48 ≤ t295) = true := decide_eq_true c5
          clear c5
          (first | rw [c5b0] | (simp only [i64_w, i32_w]; rw [c5b0]) | skip)
          replace H := Option.bind_eq_some_iff.mp H
          obtain ⟨⟨t300, t301, t302, t303, t304⟩, A60, H⟩ := H
          replace H : (ostinatoref02_Reader_number.j1 k1 s0_1 x4_1 (decide (t300 ≤ 57)) t301 t302 t303 t304) = some (r1, r2, r3, r4, r5) := H
          have A6 := Aside0.mk A60
          clear A60
          have H' := Aside0.mk H
          clear H
          go_wp2_with (first | ((with_reducible refine gate_callee (f := 57) rfl ?_); refine goesL_ (some 10) rfl rfl Try.func57 (by kernel_rfl) rfl #[.pointer (some ⟨g, 0, none⟩)] rfl (by (try simp only [List.map_toArray, List.map_cons, List.map_nil]); first | done | rfl | (simp only [List.length_drop, List.length_take]; rfl)) ?_; (with_reducible refine (ostinatoref02_Reader_next.calls g x1000_1 x1001_1 x1002_1 x1003_1 t295 t296 t297 t298 t299 w0 _ ?side1 ?side2 A4.out).mono ?_); (case side1 => repeat (first | (with_reducible first | exact HI0.out | apply IsS56.alloc | apply IsS56.drewN | apply IsS56.drew | apply IsS56.set_0 | apply IsS56.set_1 | apply IsS56.set_2 | apply IsS56.set_3) | exact HI0.out)); (case side2 => repeat (first | (with_reducible first | exact HB.out | apply below_alloc | apply pw_below_drewN | apply below_drew1 | refine below_set ?_ (IsS56.ge HI0.out)) | exact HB.out)); rintro e w7 ⟨rfl, hi, hb, hk⟩; refine ⟨_, rfl, ?_⟩; have n0_ := Aside0.mk (KeepBut.trans (by repeat (first | (with_reducible first | exact HK.out | apply KeepBut.set_ | apply keep_drewN | apply keep_drew | apply keep_alloc) | exact HK.out)) hk (.inl rfl)); have n1_ := Aside0.mk (hb); have n2_ := Aside0.mk (hi); clear HK; clear HB; clear HI0; have HK := n0_; have HB := n1_; have HI0 := n2_; clear n0_ n1_ n2_; (try clear hb); (try clear hb2); (try clear hk); (try clear hi)) | (go_at_call 57; (with_reducible refine (ostinatoref02_Reader_next.calls g t296 t297 t298 t299 t300 t301 t302 t303 t304 w0 _ ?side1 ?side2 A6.out).mono ?_); (case side1 => repeat (first | (with_reducible first | exact HI0.out | apply IsS56.alloc | apply IsS56.drewN | apply IsS56.drew | apply IsS56.set_0 | apply IsS56.set_1 | apply IsS56.set_2 | apply IsS56.set_3) | exact HI0.out)); (case side2 => repeat (first | (with_reducible first | exact HB.out | apply below_alloc | apply pw_below_drewN | apply below_drew1 | refine below_set ?_ (IsS56.ge HI0.out)) | exact HB.out)); rintro e w8 ⟨rfl, hi, hb, hk⟩; have n0_ := Aside0.mk (KeepBut.trans (by repeat (first | (with_reducible first | exact HK.out | apply KeepBut.set_ | apply keep_drewN | apply keep_drew | apply keep_alloc) | exact HK.out)) hk (.inl rfl)); have n1_ := Aside0.mk (hb); have n2_ := Aside0.mk (hi); clear HK; clear HB; clear HI0; have HK := n0_; have HB := n1_; have HI0 := n2_; clear n0_ n1_ n2_; (try clear hb); (try clear hb2); (try clear hk); (try clear hi)))
          go_meet
          case rel => exact ⟨_, (decide (t300 ≤ 57)), (t301), (t302), (t303), (t304), (by first | rfl | (simp; done) | (simp [*]; done)), H', ⟨by have := HK1.out; first | omega | exact Nat.le_refl _⟩, ⟨by repeat (first | (with_reducible first | exact HI0.out | apply IsS56.alloc | apply IsS56.drewN | apply IsS56.drew | apply IsS56.set_0 | apply IsS56.set_1 | apply IsS56.set_2 | apply IsS56.set_3) | exact HI0.out)⟩, ⟨by repeat (first | (with_reducible first | exact HK.out | apply KeepBut.set_ | apply keep_drewN | apply keep_drew | apply keep_alloc) | exact HK.out)⟩, ⟨by repeat (first | (with_reducible first | exact HB.out | apply below_alloc | apply pw_below_drewN | apply below_drew1 | refine below_set ?_ (IsS56.ge HI0.out)) | exact HB.out)⟩⟩
        · rw [if_neg c5] at H
          have c5b0 : decide (48 ≤ t295) = false := decide_eq_false c5
          clear c5
          (first | rw [c5b0] | (simp only [i64_w, i32_w]; rw [c5b0]) | skip)
          have H' := Aside0.mk H
          clear H
          go_wp2_with (first | ((with_reducible refine gate_callee (f := 57) rfl ?_); refine goesL_ (some 10) rfl rfl Try.func57 (by kernel_rfl) rfl #[.pointer (some ⟨g, 0, none⟩)] rfl (by (try simp only [List.map_toArray, List.map_cons, List.map_nil]); first | done | rfl | (simp only [List.length_drop, List.length_take]; rfl)) ?_; (with_reducible refine (ostinatoref02_Reader_next.calls g x1000_1 x1001_1 x1002_1 x1003_1 t295 t296 t297 t298 t299 w0 _ ?side1 ?side2 A4.out).mono ?_); (case side1 => repeat (first | (with_reducible first | exact HI0.out | apply IsS56.alloc | apply IsS56.drewN | apply IsS56.drew | apply IsS56.set_0 | apply IsS56.set_1 | apply IsS56.set_2 | apply IsS56.set_3) | exact HI0.out)); (case side2 => repeat (first | (with_reducible first | exact HB.out | apply below_alloc | apply pw_below_drewN | apply below_drew1 | refine below_set ?_ (IsS56.ge HI0.out)) | exact HB.out)); rintro e w9 ⟨rfl, hi, hb, hk⟩; refine ⟨_, rfl, ?_⟩; have n0_ := Aside0.mk (KeepBut.trans (by repeat (first | (with_reducible first | exact HK.out | apply KeepBut.set_ | apply keep_drewN | apply keep_drew | apply keep_alloc) | exact HK.out)) hk (.inl rfl)); have n1_ := Aside0.mk (hb); have n2_ := Aside0.mk (hi); clear HK; clear HB; clear HI0; have HK := n0_; have HB := n1_; have HI0 := n2_; clear n0_ n1_ n2_; (try clear hb); (try clear hb2); (try clear hk); (try clear hi)))
          go_meet
          case rel => exact ⟨_, (false), (t296), (t297), (t298), (t299), (by first | rfl | (simp; done) | (simp [*]; done)), H', ⟨by have := HK1.out; first | omega | exact Nat.le_refl _⟩, ⟨by repeat (first | (with_reducible first | exact HI0.out | apply IsS56.alloc | apply IsS56.drewN | apply IsS56.drew | apply IsS56.set_0 | apply IsS56.set_1 | apply IsS56.set_2 | apply IsS56.set_3) | exact HI0.out)⟩, ⟨by repeat (first | (with_reducible first | exact HK.out | apply KeepBut.set_ | apply keep_drewN | apply keep_drew | apply keep_alloc) | exact HK.out)⟩, ⟨by repeat (first | (with_reducible first | exact HB.out | apply below_alloc | apply pw_below_drewN | apply below_drew1 | refine below_set ?_ (IsS56.ge HI0.out)) | exact HB.out)⟩⟩
      case rest =>
        clear HC3
        try clear p2
        try clear c5
        try clear c5b0
        try clear hcz2_0
        try clear hcz2_1
        try clear hcz2_2
        try clear hcz2_3
        try clear hfz2_0
        try clear hfz2_1
        try clear hfz2_2
        try clear hfz2_3
        try clear p2
        obtain ⟨kq, x16_2, x1000_2, x1001_2, x1002_2, x1003_2, rfl, HA, HJ2, HI0, HK, HB⟩ := hcut
        cases kq with
        | zero => exact absurd HA.out (by simp [ostinatoref02_Reader_number.j1])
        | succ kj2 =>
          have H := HA.out
          clear HA
          simp only [ostinatoref02_Reader_number.j1] at H
          by_cases c10 : x16_2 = true
          · subst c10
            have H1 : (if x4_1 ≤ 2147483647 then ((ostinatoref02_Reader_next.f x1000_2 x1001_2 x1002_2 x1003_2).bind fun bt305 => (ostinatoref02_Reader_number.l0 kj2 s0_1 (wrap64 ((wrap64 (10 * x4_1)) + (wrap64 (bt305.1 - 48)))) bt305.2.1 (wrap64 (bt305.2.2.1 + 1)) bt305.2.2.2.1 bt305.2.2.2.2)) else (ostinatoref02_Reader_number.l0 kj2 s0_1 x4_1 x1000_2 (wrap64 (x1001_2 + 1)) x1002_2 x1003_2)) = some (r1, r2, r3, r4, r5) := by rw [if_pos rfl] at H; exact H
            clear H
            have H := H1
            clear H1
            by_cases c11 : x4_1 ≤ 2147483647
            · rw [if_pos c11] at H
              have c11b0 : decide (x4_1 ≤ 2147483647) = true := decide_eq_true c11
              clear c11
              replace H := Option.bind_eq_some_iff.mp H
              obtain ⟨⟨t305, t306, t307, t308, t309⟩, A120, H⟩ := H
              replace H : (ostinatoref02_Reader_number.l0 kj2 s0_1 (wrap64 ((wrap64 (10 * x4_1)) + (wrap64 (t305 - 48)))) t306 (wrap64 (t307 + 1)) t308 t309) = some (r1, r2, r3, r4, r5) := H
              have A12 := Aside0.mk A120
              clear A120
              have H' := Aside0.mk H
              clear H
              go_wp2_with (first | ((with_reducible refine gate_callee (f := 57) rfl ?_); refine goesL_ (some 22) rfl rfl Try.func57 (by kernel_rfl) rfl #[.pointer (some ⟨g, 0, none⟩)] rfl (by (try simp only [List.map_toArray, List.map_cons, List.map_nil]); first | done | rfl | (simp only [List.length_drop, List.length_take]; rfl)) ?_; (with_reducible refine (ostinatoref02_Reader_next.calls g x1000_2 x1001_2 x1002_2 x1003_2 t305 t306 t307 t308 t309 w0 _ ?side1 ?side2 A12.out).mono ?_); (case side1 => repeat (first | (with_reducible first | exact HI0.out | apply IsS56.alloc | apply IsS56.drewN | apply IsS56.drew | apply IsS56.set_0 | apply IsS56.set_1 | apply IsS56.set_2 | apply IsS56.set_3) | exact HI0.out)); (case side2 => repeat (first | (with_reducible first | exact HB.out | apply below_alloc | apply pw_below_drewN | apply below_drew1 | refine below_set ?_ (IsS56.ge HI0.out)) | exact HB.out)); rintro e w13 ⟨rfl, hi, hb, hk⟩; refine ⟨_, rfl, ?_⟩; have n0_ := Aside0.mk (KeepBut.trans (by repeat (first | (with_reducible first | exact HK.out | apply KeepBut.set_ | apply keep_drewN | apply keep_drew | apply keep_alloc) | exact HK.out)) hk (.inl rfl)); have n1_ := Aside0.mk (hb); have n2_ := Aside0.mk (hi); clear HK; clear HB; clear HI0; have HK := n0_; have HB := n1_; have HI0 := n2_; clear n0_ n1_ n2_; (try clear hb); (try clear hb2); (try clear hk); (try clear hi); obtain ⟨HGz14, hgz14⟩ := HI0.out; have hcz14_0 := cellS56_0 HGz14; have hcz14_1 := cellS56_1 HGz14; have hcz14_2 := cellS56_2 HGz14; have hcz14_3 := cellS56_3 HGz14; have hfz14_0 := blk_frozen HGz14 0; have hfz14_1 := blk_frozen HGz14 1; have hfz14_2 := blk_frozen HGz14 2; have hfz14_3 := blk_frozen HGz14 3; clear HGz14 hgz14))
              go_roundg kj2
              case measure => have := HK1.out; have := HJ2.out; omega
              case rel => exact ⟨(wrap64 ((wrap64 (10 * x4_1)) + (wrap64 (t305 - 48)))), (t306), (wrap64 (t307 + 1)), (t308), (t309), (by first | rfl | (simp; done) | (simp [*]; done)), H', ⟨by have := HK1.out; have := HJ2.out; omega⟩, ⟨by repeat (first | (with_reducible first | exact HI0.out | apply IsS56.alloc | apply IsS56.drewN | apply IsS56.drew | apply IsS56.set_0 | apply IsS56.set_1 | apply IsS56.set_2 | apply IsS56.set_3) | exact HI0.out)⟩, ⟨by repeat (first | (with_reducible first | exact HK.out | apply KeepBut.set_ | apply keep_drewN | apply keep_drew | apply keep_alloc) | exact HK.out)⟩, ⟨by repeat (first | (with_reducible first | exact HB.out | apply below_alloc | apply pw_below_drewN | apply below_drew1 | refine below_set ?_ (IsS56.ge HI0.out)) | exact HB.out)⟩⟩
            · rw [if_neg c11] at H
              have c11b0 : decide (x4_1 ≤ 2147483647) = false := decide_eq_false c11
              clear c11
              have H' := Aside0.mk H
              clear H
              obtain ⟨HGz15, hgz15⟩ := HI0.out
              have hcz15_0 := cellS56_0 HGz15
              have hcz15_1 := cellS56_1 HGz15
              have hcz15_2 := cellS56_2 HGz15
              have hcz15_3 := cellS56_3 HGz15
              have hfz15_0 := blk_frozen HGz15 0
              have hfz15_1 := blk_frozen HGz15 1
              have hfz15_2 := blk_frozen HGz15 2
              have hfz15_3 := blk_frozen HGz15 3
              clear HGz15 hgz15
              go_wp2
              go_roundg kj2
              case measure => have := HK1.out; have := HJ2.out; omega
              case rel => exact ⟨(x4_1), (x1000_2), (wrap64 (x1001_2 + 1)), (x1002_2), (x1003_2), (by first | rfl | (simp; done) | (simp [*]; done)), H', ⟨by have := HK1.out; have := HJ2.out; omega⟩, ⟨by repeat (first | (with_reducible first | exact HI0.out | apply IsS56.alloc | apply IsS56.drewN | apply IsS56.drew | apply IsS56.set_0 | apply IsS56.set_1 | apply IsS56.set_2 | apply IsS56.set_3) | exact HI0.out)⟩, ⟨by repeat (first | (with_reducible first | exact HK.out | apply KeepBut.set_ | apply keep_drewN | apply keep_drew | apply keep_alloc) | exact HK.out)⟩, ⟨by repeat (first | (with_reducible first | exact HB.out | apply below_alloc | apply pw_below_drewN | apply below_drew1 | refine below_set ?_ (IsS56.ge HI0.out)) | exact HB.out)⟩⟩
          · replace c10 := Bool.eq_false_iff.mpr c10
            subst c10
            have H1 : (if x1001_2 = s0_1 then ((ostinatoref02_Reader_fail.f x1000_2 x1001_2 x1002_2 x1003_2 s0_1 2).bind fun bt310 => (if x4_1 > 2147483647 then ((ostinatoref02_Reader_fail.f bt310.1 bt310.2.1 bt310.2.2.1 bt310.2.2.2 s0_1 3).bind fun bt314 => (some (x4_1, bt314.1, bt314.2.1, bt314.2.2.1, bt314.2.2.2))) else (some (x4_1, bt310.1, bt310.2.1, bt310.2.2.1, bt310.2.2.2)))) else (if x4_1 > 2147483647 then ((ostinatoref02_Reader_fail.f x1000_2 x1001_2 x1002_2 x1003_2 s0_1 3).bind fun bt318 => (some (x4_1, bt318.1, bt318.2.1, bt318.2.2.1, bt318.2.2.2))) else (some (x4_1, x1000_2, x1001_2, x1002_2, x1003_2)))) = some (r1, r2, r3, r4, r5) := by rw [if_neg (show ¬ (false = true) by decide)] at H; exact H
            clear H
            have H := H1
            clear H1
            by_cases c16 : x1001_2 = s0_1
            · rw [if_pos c16] at H
              have c16b0 : (x1001_2 == s0_1) = true := beq_iff_eq.mpr c16
              have c16b1 : (x1001_2 != s0_1) = false := bne_eq_false_iff_eq.mpr c16
              clear c16
              replace H := Option.bind_eq_some_iff.mp H
              obtain ⟨⟨t310, t311, t312, t313⟩, A170, H⟩ := H
              replace H : (if x4_1 > 2147483647 then ((ostinatoref02_Reader_fail.f t310 t311 t312 t313 s0_1 3).bind fun bt314 => (some (x4_1, bt314.1, bt314.2.1, bt314.2.2.1, bt314.2.2.2))) else (some (x4_1, t310, t311, t312, t313))) = some (r1, r2, r3, r4, r5) := H
              have A17 := Aside0.mk A170
              clear A170
              by_cases c18 : x4_1 > 2147483647
              · rw [if_pos c18] at H
                have c18b0 : decide (2147483647 < x4_1) = true := decide_eq_true c18
                clear c18
                replace H := Option.bind_eq_some_iff.mp H
                obtain ⟨⟨t314, t315, t316, t317⟩, A190, H⟩ := H
                replace H : (some (x4_1, t314, t315, t316, t317)) = some (r1, r2, r3, r4, r5) := H
                have A19 := Aside0.mk A190
                clear A190
                simp only [Option.some.injEq, Prod.mk.injEq] at H
                obtain ⟨rfl, rfl, rfl, rfl, rfl⟩ := H
                obtain ⟨HGz20, hgz20⟩ := HI0.out
                have hcz20_0 := cellS56_0 HGz20
                have hcz20_1 := cellS56_1 HGz20
                have hcz20_2 := cellS56_2 HGz20
                have hcz20_3 := cellS56_3 HGz20
                have hfz20_0 := blk_frozen HGz20 0
                have hfz20_1 := blk_frozen HGz20 1
                have hfz20_2 := blk_frozen HGz20 2
                have hfz20_3 := blk_frozen HGz20 3
                clear HGz20 hgz20
                go_wp2_with (first | ((with_reducible refine gate_callee (f := 30) rfl ?_); refine goesL_ (some 40) rfl rfl Try.func30 (by kernel_rfl) rfl #[.pointer (some ⟨g, 0, none⟩), .int .i64 s0_1, .int .i64 2] rfl (by (try simp only [List.map_toArray, List.map_cons, List.map_nil]); first | done | rfl | (simp only [List.length_drop, List.length_take]; rfl)) ?_; (with_reducible refine (ostinatoref02_Reader_fail.calls g x1000_2 x1001_2 x1002_2 x1003_2 s0_1 2 t310 t311 t312 t313 w0 _ ?side1 ?side2 A17.out).mono ?_); (case side1 => repeat (first | (with_reducible first | exact HI0.out | apply IsS56.alloc | apply IsS56.drewN | apply IsS56.drew | apply IsS56.set_0 | apply IsS56.set_1 | apply IsS56.set_2 | apply IsS56.set_3) | exact HI0.out)); (case side2 => repeat (first | (with_reducible first | exact HB.out | apply below_alloc | apply pw_below_drewN | apply below_drew1 | refine below_set ?_ (IsS56.ge HI0.out)) | exact HB.out)); rintro e w21 ⟨rfl, hi, hb, hk⟩; refine ⟨_, rfl, ?_⟩; have n0_ := Aside0.mk (KeepBut.trans (by repeat (first | (with_reducible first | exact HK.out | apply KeepBut.set_ | apply keep_drewN | apply keep_drew | apply keep_alloc) | exact HK.out)) hk (.inl rfl)); have n1_ := Aside0.mk (hb); have n2_ := Aside0.mk (hi); clear HK; clear HB; clear HI0; have HK := n0_; have HB := n1_; have HI0 := n2_; clear n0_ n1_ n2_; (try clear hb); (try clear hb2); (try clear hk); (try clear hi)) | ((with_reducible refine gate_callee (f := 30) rfl ?_); refine goesL_ (some 45) rfl rfl Try.func30 (by kernel_rfl) rfl #[.pointer (some ⟨g, 0, none⟩), .int .i64 s0_1, .int .i64 3] rfl (by (try simp only [List.map_toArray, List.map_cons, List.map_nil]); first | done | rfl | (simp only [List.length_drop, List.length_take]; rfl)) ?_; (with_reducible refine (ostinatoref02_Reader_fail.calls g t310 t311 t312 t313 s0_1 3 t314 t315 t316 t317 w0 _ ?side1 ?side2 A19.out).mono ?_); (case side1 => repeat (first | (with_reducible first | exact HI0.out | apply IsS56.alloc | apply IsS56.drewN | apply IsS56.drew | apply IsS56.set_0 | apply IsS56.set_1 | apply IsS56.set_2 | apply IsS56.set_3) | exact HI0.out)); (case side2 => repeat (first | (with_reducible first | exact HB.out | apply below_alloc | apply pw_below_drewN | apply below_drew1 | refine below_set ?_ (IsS56.ge HI0.out)) | exact HB.out)); rintro e w22 ⟨rfl, hi, hb, hk⟩; refine ⟨_, rfl, ?_⟩; have n0_ := Aside0.mk (KeepBut.trans (by repeat (first | (with_reducible first | exact HK.out | apply KeepBut.set_ | apply keep_drewN | apply keep_drew | apply keep_alloc) | exact HK.out)) hk (.inl rfl)); have n1_ := Aside0.mk (hb); have n2_ := Aside0.mk (hi); clear HK; clear HB; clear HI0; have HK := n0_; have HB := n1_; have HI0 := n2_; clear n0_ n1_ n2_; (try clear hb); (try clear hb2); (try clear hk); (try clear hi)))
                go_ret
                exact ⟨by first | rfl | (simp [errW_none, errW_some] <;> rfl) | (simp [*, errW_none, errW_some] <;> rfl), by repeat (first | (with_reducible first | exact HI0.out | apply IsS56.alloc | apply IsS56.drewN | apply IsS56.drew | apply IsS56.set_0 | apply IsS56.set_1 | apply IsS56.set_2 | apply IsS56.set_3) | exact HI0.out), by repeat (first | (with_reducible first | exact HB.out | apply below_alloc | apply pw_below_drewN | apply below_drew1 | refine below_set ?_ (IsS56.ge HI0.out)) | exact HB.out), by repeat (first | (with_reducible first | exact HK.out | apply KeepBut.set_ | apply keep_drewN | apply keep_drew | apply keep_alloc) | exact HK.out)⟩
              · rw [if_neg c18] at H
                have c18b0 : decide (2147483647 < x4_1) = false := decide_eq_false c18
                clear c18
                simp only [Option.some.injEq, Prod.mk.injEq] at H
                obtain ⟨rfl, rfl, rfl, rfl, rfl⟩ := H
                obtain ⟨HGz23, hgz23⟩ := HI0.out
                have hcz23_0 := cellS56_0 HGz23
                have hcz23_1 := cellS56_1 HGz23
                have hcz23_2 := cellS56_2 HGz23
                have hcz23_3 := cellS56_3 HGz23
                have hfz23_0 := blk_frozen HGz23 0
                have hfz23_1 := blk_frozen HGz23 1
                have hfz23_2 := blk_frozen HGz23 2
                have hfz23_3 := blk_frozen HGz23 3
                clear HGz23 hgz23
                go_wp2_with (first | ((with_reducible refine gate_callee (f := 30) rfl ?_); refine goesL_ (some 40) rfl rfl Try.func30 (by kernel_rfl) rfl #[.pointer (some ⟨g, 0, none⟩), .int .i64 s0_1, .int .i64 2] rfl (by (try simp only [List.map_toArray, List.map_cons, List.map_nil]); first | done | rfl | (simp only [List.length_drop, List.length_take]; rfl)) ?_; (with_reducible refine (ostinatoref02_Reader_fail.calls g x1000_2 x1001_2 x1002_2 x1003_2 s0_1 2 t310 t311 t312 t313 w0 _ ?side1 ?side2 A17.out).mono ?_); (case side1 => repeat (first | (with_reducible first | exact HI0.out | apply IsS56.alloc | apply IsS56.drewN | apply IsS56.drew | apply IsS56.set_0 | apply IsS56.set_1 | apply IsS56.set_2 | apply IsS56.set_3) | exact HI0.out)); (case side2 => repeat (first | (with_reducible first | exact HB.out | apply below_alloc | apply pw_below_drewN | apply below_drew1 | refine below_set ?_ (IsS56.ge HI0.out)) | exact HB.out)); rintro e w24 ⟨rfl, hi, hb, hk⟩; refine ⟨_, rfl, ?_⟩; have n0_ := Aside0.mk (KeepBut.trans (by repeat (first | (with_reducible first | exact HK.out | apply KeepBut.set_ | apply keep_drewN | apply keep_drew | apply keep_alloc) | exact HK.out)) hk (.inl rfl)); have n1_ := Aside0.mk (hb); have n2_ := Aside0.mk (hi); clear HK; clear HB; clear HI0; have HK := n0_; have HB := n1_; have HI0 := n2_; clear n0_ n1_ n2_; (try clear hb); (try clear hb2); (try clear hk); (try clear hi)))
                go_ret
                exact ⟨by first | rfl | (simp [errW_none, errW_some] <;> rfl) | (simp [*, errW_none, errW_some] <;> rfl), by repeat (first | (with_reducible first | exact HI0.out | apply IsS56.alloc | apply IsS56.drewN | apply IsS56.drew | apply IsS56.set_0 | apply IsS56.set_1 | apply IsS56.set_2 | apply IsS56.set_3) | exact HI0.out), by repeat (first | (with_reducible first | exact HB.out | apply below_alloc | apply pw_below_drewN | apply below_drew1 | refine below_set ?_ (IsS56.ge HI0.out)) | exact HB.out), by repeat (first | (with_reducible first | exact HK.out | apply KeepBut.set_ | apply keep_drewN | apply keep_drew | apply keep_alloc) | exact HK.out)⟩
            · rw [if_neg c16] at H
              have c16b0 : (x1001_2 == s0_1) = false := beq_eq_false_iff_ne.mpr c16
              have c16b1 : (x1001_2 != s0_1) = true := bne_iff_ne.mpr c16
              by_cases c25 : x4_1 > 2147483647
              · rw [if_pos c25] at H
                have c25b0 : decide (2147483647 < x4_1) = true := decide_eq_true c25
                clear c25
                replace H := Option.bind_eq_some_iff.mp H
                obtain ⟨⟨t318, t319, t320, t321⟩, A260, H⟩ := H
                replace H : (some (x4_1, t318, t319, t320, t321)) = some (r1, r2, r3, r4, r5) := H
                have A26 := Aside0.mk A260
                clear A260
                simp only [Option.some.injEq, Prod.mk.injEq] at H
                obtain ⟨rfl, rfl, rfl, rfl, rfl⟩ := H
                obtain ⟨HGz27, hgz27⟩ := HI0.out
                have hcz27_0 := cellS56_0 HGz27
                have hcz27_1 := cellS56_1 HGz27
                have hcz27_2 := cellS56_2 HGz27
                have hcz27_3 := cellS56_3 HGz27
                have hfz27_0 := blk_frozen HGz27 0
                have hfz27_1 := blk_frozen HGz27 1
                have hfz27_2 := blk_frozen HGz27 2
                have hfz27_3 := blk_frozen HGz27 3
                clear HGz27 hgz27
                go_wp2_with (first | ((with_reducible refine gate_callee (f := 30) rfl ?_); refine goesL_ (some 45) rfl rfl Try.func30 (by kernel_rfl) rfl #[.pointer (some ⟨g, 0, none⟩), .int .i64 s0_1, .int .i64 3] rfl (by (try simp only [List.map_toArray, List.map_cons, List.map_nil]); first | done | rfl | (simp only [List.length_drop, List.length_take]; rfl)) ?_; (with_reducible refine (ostinatoref02_Reader_fail.calls g x1000_2 x1001_2 x1002_2 x1003_2 s0_1 3 t318 t319 t320 t321 w0 _ ?side1 ?side2 A26.out).mono ?_); (case side1 => repeat (first | (with_reducible first | exact HI0.out | apply IsS56.alloc | apply IsS56.drewN | apply IsS56.drew | apply IsS56.set_0 | apply IsS56.set_1 | apply IsS56.set_2 | apply IsS56.set_3) | exact HI0.out)); (case side2 => repeat (first | (with_reducible first | exact HB.out | apply below_alloc | apply pw_below_drewN | apply below_drew1 | refine below_set ?_ (IsS56.ge HI0.out)) | exact HB.out)); rintro e w28 ⟨rfl, hi, hb, hk⟩; refine ⟨_, rfl, ?_⟩; have n0_ := Aside0.mk (KeepBut.trans (by repeat (first | (with_reducible first | exact HK.out | apply KeepBut.set_ | apply keep_drewN | apply keep_drew | apply keep_alloc) | exact HK.out)) hk (.inl rfl)); have n1_ := Aside0.mk (hb); have n2_ := Aside0.mk (hi); clear HK; clear HB; clear HI0; have HK := n0_; have HB := n1_; have HI0 := n2_; clear n0_ n1_ n2_; (try clear hb); (try clear hb2); (try clear hk); (try clear hi)))
                go_ret
                exact ⟨by first | rfl | (simp [errW_none, errW_some] <;> rfl) | (simp [*, errW_none, errW_some] <;> rfl), by repeat (first | (with_reducible first | exact HI0.out | apply IsS56.alloc | apply IsS56.drewN | apply IsS56.drew | apply IsS56.set_0 | apply IsS56.set_1 | apply IsS56.set_2 | apply IsS56.set_3) | exact HI0.out), by repeat (first | (with_reducible first | exact HB.out | apply below_alloc | apply pw_below_drewN | apply below_drew1 | refine below_set ?_ (IsS56.ge HI0.out)) | exact HB.out), by repeat (first | (with_reducible first | exact HK.out | apply KeepBut.set_ | apply keep_drewN | apply keep_drew | apply keep_alloc) | exact HK.out)⟩
              · rw [if_neg c25] at H
                have c25b0 : decide (2147483647 < x4_1) = false := decide_eq_false c25
                clear c25
                simp only [Option.some.injEq, Prod.mk.injEq] at H
                obtain ⟨rfl, rfl, rfl, rfl, rfl⟩ := H
                obtain ⟨HGz29, hgz29⟩ := HI0.out
                have hcz29_0 := cellS56_0 HGz29
                have hcz29_1 := cellS56_1 HGz29
                have hcz29_2 := cellS56_2 HGz29
                have hcz29_3 := cellS56_3 HGz29
                have hfz29_0 := blk_frozen HGz29 0
                have hfz29_1 := blk_frozen HGz29 1
                have hfz29_2 := blk_frozen HGz29 2
                have hfz29_3 := blk_frozen HGz29 3
                clear HGz29 hgz29
                go_wp2
                go_ret
                exact ⟨by first | rfl | (simp [errW_none, errW_some] <;> rfl) | (simp [*, errW_none, errW_some] <;> rfl), by repeat (first | (with_reducible first | exact HI0.out | apply IsS56.alloc | apply IsS56.drewN | apply IsS56.drew | apply IsS56.set_0 | apply IsS56.set_1 | apply IsS56.set_2 | apply IsS56.set_3) | exact HI0.out), by repeat (first | (with_reducible first | exact HB.out | apply below_alloc | apply pw_below_drewN | apply below_drew1 | refine below_set ?_ (IsS56.ge HI0.out)) | exact HB.out), by repeat (first | (with_reducible first | exact HK.out | apply KeepBut.set_ | apply keep_drewN | apply keep_drew | apply keep_alloc) | exact HK.out)⟩

end Go.Proofs.Ytmkcbbamfkafmaa.P
