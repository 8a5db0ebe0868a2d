import Derived.Test.YtlnhiogpjdhhbaaPx0
import Derived.Test.YtlnhiogpjdhhbaaPx2
-- Written by wip/xp.
namespace Go.Proofs.Ytlnhiogpjdhhbaa.P
open Go.RowKit Go.Proofs.YtlnhiogpjdhhbaaW.PrintWords Go.Proofs.YtlnhiogpjdhhbaaW.PrintLast Go.Proofs.YtlnhiogpjdhhbaaW.PrintMore
open Go.Proofs.YtlnhiogpjdhhbaaW.PrintWords renaming blk_frozen → zA, blk_cell → zB, pw_below_drewN → zC, below_drew1 → zD, below_alloc → zE, below_set → zF, blk_alloc → zG, blk_drewN → zH, blk_drew → zI, below_step → zJ, blk_below → zK
open Go.Proofs.YtlnhiogpjdhhbaaW.PrintWords.Aside0 renaming mk → zL
attribute [local go_sem] max2_int min2_int max_two min_two max_three min_three max_four min_four   -- for this text's walks alone
set_option linter.unusedVariables false
set_option linter.unusedSimpArgs false

mutual
def syntax_shaped.j0 : Nat → Bool → Int → Int → Int → Int → Int → List (S27) → Int → Int → Option (Bool)
  | 0, _, _, _, _, _, _, _, _, _ => none
  | k + 1, x3, x103000, x103001, x103002, x103003, x103004, x103005, x103006, x103007 => if x103000 = 0 then (if x3 = true then ((class_Empty.f x103001 x103002 x103003 x103004).bind fun t103 => (if t103 = true then (some ((x103005.length : Int) == 0)) else (some false))) else (some false)) else (if x103000 = 1 then (if x3 = true then (some ((x103005.length : Int) == 0)) else (some false)) else (if x103000 = 2 then (syntax_shaped.j1 k x3 x103000 (x103000 == 2) x103000 x103001 x103002 x103003 x103004 x103005 x103006 x103007) else (syntax_shaped.j1 k x3 x103000 (x103000 == 3) x103000 x103001 x103002 x103003 x103004 x103005 x103006 x103007)))
def syntax_shaped.j1 : Nat → Bool → Int → Bool → Int → Int → Int → Int → Int → List (S27) → Int → Int → Option (Bool)
  | 0, _, _, _, _, _, _, _, _, _, _, _ => none
  | k + 1, x3, x13, x37, x103000, x103001, x103002, x103003, x103004, x103005, x103006, x103007 => if x37 = true then (if x3 = true then ((class_Empty.f x103001 x103002 x103003 x103004).bind fun t104 => (if t104 = true then (some (decide ((x103005.length : Int) ≥ 2))) else (some false))) else (some false)) else (if x13 = 4 then ((class_Empty.f x103001 x103002 x103003 x103004).bind fun t105 => (if t105 = true then (if (x103005.length : Int) = 1 then (if x103006 ≥ 0 then (if x103006 ≤ 2147483647 then (if x103007 = (-1) then (some true) else (if x103007 ≥ x103006 then (some (decide (x103007 ≤ 2147483647))) else (some false))) else (some false)) else (some false)) else (some false)) else (some false))) else (some false))
end
def syntax_shaped.f (k : Nat) (a0_0 : Int) (a0_1 : Int) (a0_2 : Int) (a0_3 : Int) (a0_4 : Int) (l0_5 : List (S27)) (a0_6 : Int) (a0_7 : Int) : Option (Bool) := if a0_6 = 0 then (syntax_shaped.j0 k (a0_7 == 0) a0_0 a0_1 a0_2 a0_3 a0_4 l0_5 a0_6 a0_7) else (syntax_shaped.j0 k false a0_0 a0_1 a0_2 a0_3 a0_4 l0_5 a0_6 a0_7)
theorem syntax_shaped.mono_l : ∀ k, (∀ y0 y1 y2 y3 y4 y5 y6 y7 y8, LeO (syntax_shaped.j0 k y0 y1 y2 y3 y4 y5 y6 y7 y8) (syntax_shaped.j0 (k + 1) y0 y1 y2 y3 y4 y5 y6 y7 y8)) ∧ (∀ y0 y1 y2 y3 y4 y5 y6 y7 y8 y9 y10, LeO (syntax_shaped.j1 k y0 y1 y2 y3 y4 y5 y6 y7 y8 y9 y10) (syntax_shaped.j1 (k + 1) y0 y1 y2 y3 y4 y5 y6 y7 y8 y9 y10))
  | 0 => ⟨fun _ _ _ _ _ _ _ _ _ r h => by simp [syntax_shaped.j0] at h, fun _ _ _ _ _ _ _ _ _ _ _ r h => by simp [syntax_shaped.j1] at h⟩
  | k + 1 => by
    obtain ⟨ih0, ih1⟩ := syntax_shaped.mono_l k
    refine ⟨?_, ?_⟩
    · intro y0 y1 y2 y3 y4 y5 y6 y7 y8
      unfold syntax_shaped.j0
      repeat' first
      | (with_reducible exact ih0 _ _ _ _ _ _ _ _ _)
      | (with_reducible exact ih1 _ _ _ _ _ _ _ _ _ _ _)
      | (with_reducible exact LeO.refl _)
      | (with_reducible exact LeO.none _)
      | (with_reducible refine LeO.ite ?_ ?_)
      | (with_reducible refine LeO.bind ?_ (fun _ => ?_))
      | exact ih0 _ _ _ _ _ _ _ _ _
      | exact ih1 _ _ _ _ _ _ _ _ _ _ _
      | exact LeO.none _
      | refine LeO.ite ?_ ?_
      | refine LeO.bind ?_ (fun _ => ?_)
    · intro y0 y1 y2 y3 y4 y5 y6 y7 y8 y9 y10
      unfold syntax_shaped.j1
      repeat' first
      | (with_reducible exact ih0 _ _ _ _ _ _ _ _ _)
      | (with_reducible exact ih1 _ _ _ _ _ _ _ _ _ _ _)
      | (with_reducible exact LeO.refl _)
      | (with_reducible exact LeO.none _)
      | (with_reducible refine LeO.ite ?_ ?_)
      | (with_reducible refine LeO.bind ?_ (fun _ => ?_))
      | exact ih0 _ _ _ _ _ _ _ _ _
      | exact ih1 _ _ _ _ _ _ _ _ _ _ _
      | exact LeO.none _
      | refine LeO.ite ?_ ?_
      | refine LeO.bind ?_ (fun _ => ?_)
theorem syntax_shaped.mono : ∀ a0 a1 a2 a3 a4 a5 a6 a7 k, LeO (syntax_shaped.f k a0 a1 a2 a3 a4 a5 a6 a7) (syntax_shaped.f (k + 1) a0 a1 a2 a3 a4 a5 a6 a7) := by
  intro a0 a1 a2 a3 a4 a5 a6 a7 k
  obtain ⟨ih0, ih1⟩ := syntax_shaped.mono_l k
  unfold syntax_shaped.f
  repeat' first
      | (with_reducible exact ih0 _ _ _ _ _ _ _ _ _)
      | (with_reducible exact ih1 _ _ _ _ _ _ _ _ _ _ _)
      | (with_reducible exact LeO.refl _)
      | (with_reducible exact LeO.none _)
      | (with_reducible refine LeO.ite ?_ ?_)
      | (with_reducible refine LeO.bind ?_ (fun _ => ?_))
      | exact ih0 _ _ _ _ _ _ _ _ _
      | exact ih1 _ _ _ _ _ _ _ _ _ _ _
      | exact LeO.none _
      | refine LeO.ite ?_ ?_
      | refine LeO.bind ?_ (fun _ => ?_)
set_option maxHeartbeats 8000000 in
set_option maxRecDepth 100000 in
theorem syntax_shaped.calls (k : Nat) (a0_0 : Int) (a0_1 : Int) (a0_2 : Int) (a0_3 : Int) (a0_4 : Int) (A0_5 : Option Addr) (c0_5 : Nat) (l0_5 : List (S27)) (a0_6 : Int) (a0_7 : Int) (r : Bool) (w : World) (hr0_5 : Kd.C k27 w A0_5 l0_5.length l0_5) (hc0_5 : l0_5.length ≤ c0_5) (h : syntax_shaped.f k a0_0 a0_1 a0_2 a0_3 a0_4 l0_5 a0_6 a0_7 = some r) :
  Calls Try.prog 29 #[.agg #[.int .i64 a0_0, .int .u64 a0_1, .int .u64 a0_2, .int .u64 a0_3, .int .u64 a0_4, .slice A0_5 l0_5.length c0_5, .int .i64 a0_6, .int .i64 a0_7]] w fun e w' => e = .returned (.bool r) ∧ Below w.heap.size w w' := by
 have hu27 := Try.underlying27
 have hu24 := Try.underlying24
 have HR0_5 := zL hr0_5
 have HC0_5 := zL hc0_5
 clear hr0_5 hc0_5
 have HB := zL (Below.refl w.heap.size w)
 have H : (if a0_6 = 0 then (syntax_shaped.j0 k (a0_7 == 0) a0_0 a0_1 a0_2 a0_3 a0_4 l0_5 a0_6 a0_7) else (syntax_shaped.j0 k false a0_0 a0_1 a0_2 a0_3 a0_4 l0_5 a0_6 a0_7)) = some r := h
 clear h
 have HC2 := zL H
 clear H
 go_enter Try.func29, Try.ntmps29
 go_upto_region 1 with (first | ((with_reducible refine gate_dst (N := 1) rfl ?_); (try (refine gate_guard (by rfl) ?_; dsimp only)); refine box_event ?hg (N := 1) ?hd (cs := #[.int .i64 a0_0, .int .u64 a0_1, .int .u64 a0_2, .int .u64 a0_3, .int .u64 a0_4, .slice A0_5 l0_5.length c0_5, .int .i64 a0_6, .int .i64 a0_7]) (t := 27) ?hr ?_; (case hd => rfl); (case hg => rfl); (case hr => first | (go_simp; done) | (go_simp; rfl)); intro gb102 hg w3 hbox hb; have n0_ := zL (zJ (by repeat (first | (with_reducible first | exact HB.out | apply zE | apply zC | apply zD) | exact HB.out)) hb); have n1_ := zL (hbox); have n2_ := zL ((by rw [hg]; exact (below_size (by repeat (first | (with_reducible first | exact HB.out | apply zE | apply zC | apply zD) | exact HB.out))) : w.heap.size ≤ gb102)); have n3_ := zL ((by rw [hg]; exact (below_size (by repeat (first | (with_reducible first | exact HB.out | apply zE | apply zC | apply zD) | exact HB.out))) : w.heap.size ≤ gb102)); clear HB; have HB := n0_; have BK102 := n1_; have GW102 := n2_; have GE102 := n3_; clear n0_ n1_ n2_ n3_; clear hb hbox hg))
 (try simp only [Act.put, List.setIfInBounds_toArray, List.set_cons_zero, List.set_cons_succ])
 go_cut [3] (fun v3 wc => ∃ (kq : Nat) (x3_1 : Bool), v3 = .bool x3_1 ∧ Aside0 (syntax_shaped.j0 kq x3_1 a0_0 a0_1 a0_2 a0_3 a0_4 l0_5 a0_6 a0_7 = some r) ∧ Aside0 (kq ≤ k) ∧ Aside0 (wc.heap[gb102]? = some (.cells #[.int .i64 a0_0, .int .u64 a0_1, .int .u64 a0_2, .int .u64 a0_3, .int .u64 a0_4, (.slice A0_5 l0_5.length c0_5), .int .i64 a0_6, .int .i64 a0_7] 27 (0, 0))) ∧ Aside0 (Below w.heap.size w wc))
 case first =>
  have H := HC2.out
  clear HC2
  by_cases c4 : a0_6 = 0
  ·
   rw [if_pos c4] at H
   have c4b0 : (a0_6 == 0) = true := beq_iff_eq.mpr c4
   have c4b1 : (a0_6 != 0) = false := bne_eq_false_iff_eq.mpr c4
   clear c4
   (first | rw [c4b0] | (simp only [i64_w, i32_w]; rw [c4b0]) | skip)
   have H' := zL H
   clear H
   have hcz5_0 : w3.cell? ⟨gb102, 0, none⟩ = some (.int .i64 a0_0) := (zB BK102.out 0).trans rfl
   have hcz5_1 : w3.cell? ⟨gb102, 1, none⟩ = some (.int .u64 a0_1) := (zB BK102.out 1).trans rfl
   have hcz5_2 : w3.cell? ⟨gb102, 2, none⟩ = some (.int .u64 a0_2) := (zB BK102.out 2).trans rfl
   have hcz5_3 : w3.cell? ⟨gb102, 3, none⟩ = some (.int .u64 a0_3) := (zB BK102.out 3).trans rfl
   have hcz5_4 : w3.cell? ⟨gb102, 4, none⟩ = some (.int .u64 a0_4) := (zB BK102.out 4).trans rfl
   have hcz5_5 : w3.cell? ⟨gb102, 5, none⟩ = some (.slice A0_5 l0_5.length c0_5) := (zB BK102.out 5).trans rfl
   have hcz5_6 : w3.cell? ⟨gb102, 6, none⟩ = some (.int .i64 a0_6) := (zB BK102.out 6).trans rfl
   have hcz5_7 : w3.cell? ⟨gb102, 7, none⟩ = some (.int .i64 a0_7) := (zB BK102.out 7).trans rfl
   have hfz5_0 := zA BK102.out 0
   have hfz5_1 := zA BK102.out 1
   have hfz5_2 := zA BK102.out 2
   have hfz5_3 := zA BK102.out 3
   have hfz5_4 := zA BK102.out 4
   have hfz5_5 := zA BK102.out 5
   have hfz5_6 := zA BK102.out 6
   have hfz5_7 := zA BK102.out 7
   go_wp2
   go_meet
   case rel => exact ⟨_, ((a0_7 == 0)), (by first | rfl | (simp; done) | (simp [*]; done)), H', ⟨by first | omega | exact Nat.le_refl _⟩, ⟨by (with_reducible repeat (first | refine zH ?_ _ | refine zI ?_ | refine zG ?_ _)); exact BK102.out⟩, ⟨by repeat (first | (with_reducible first | exact HB.out | apply zE | apply zC | apply zD | refine zF ?_ GE102.out) | exact HB.out)⟩⟩
  ·
   rw [if_neg c4] at H
   have c4b0 : (a0_6 == 0) = false := beq_eq_false_iff_ne.mpr c4
   have c4b1 : (a0_6 != 0) = true := bne_iff_ne.mpr c4
   (first | rw [c4b0] | (simp only [i64_w, i32_w]; rw [c4b0]) | skip)
   have H' := zL H
   clear H
   have hcz6_0 : w3.cell? ⟨gb102, 0, none⟩ = some (.int .i64 a0_0) := (zB BK102.out 0).trans rfl
   have hcz6_1 : w3.cell? ⟨gb102, 1, none⟩ = some (.int .u64 a0_1) := (zB BK102.out 1).trans rfl
   have hcz6_2 : w3.cell? ⟨gb102, 2, none⟩ = some (.int .u64 a0_2) := (zB BK102.out 2).trans rfl
   have hcz6_3 : w3.cell? ⟨gb102, 3, none⟩ = some (.int .u64 a0_3) := (zB BK102.out 3).trans rfl
   have hcz6_4 : w3.cell? ⟨gb102, 4, none⟩ = some (.int .u64 a0_4) := (zB BK102.out 4).trans rfl
   have hcz6_5 : w3.cell? ⟨gb102, 5, none⟩ = some (.slice A0_5 l0_5.length c0_5) := (zB BK102.out 5).trans rfl
   have hcz6_6 : w3.cell? ⟨gb102, 6, none⟩ = some (.int .i64 a0_6) := (zB BK102.out 6).trans rfl
   have hcz6_7 : w3.cell? ⟨gb102, 7, none⟩ = some (.int .i64 a0_7) := (zB BK102.out 7).trans rfl
   have hfz6_0 := zA BK102.out 0
   have hfz6_1 := zA BK102.out 1
   have hfz6_2 := zA BK102.out 2
   have hfz6_3 := zA BK102.out 3
   have hfz6_4 := zA BK102.out 4
   have hfz6_5 := zA BK102.out 5
   have hfz6_6 := zA BK102.out 6
   have hfz6_7 := zA BK102.out 7
   go_wp2
   go_meet
   case rel => exact ⟨_, (false), (by first | rfl | (simp; done) | (simp [*]; done)), H', ⟨by first | omega | exact Nat.le_refl _⟩, ⟨by (with_reducible repeat (first | refine zH ?_ _ | refine zI ?_ | refine zG ?_ _)); exact BK102.out⟩, ⟨by repeat (first | (with_reducible first | exact HB.out | apply zE | apply zC | apply zD | refine zF ?_ GE102.out) | exact HB.out)⟩⟩
 case rest =>
  clear HC2
  (try clear c2); (try clear p2); (try clear c4); (try clear c4b0); (try clear c4b1); (try clear hcz5_0 hcz5_1 hcz5_2 hcz5_3 hcz5_4 hcz5_5 hcz5_6 hcz5_7); (try clear hcz6_0 hcz6_1 hcz6_2 hcz6_3 hcz6_4 hcz6_5 hcz6_6 hcz6_7); (try clear hfz5_0 hfz5_1 hfz5_2 hfz5_3 hfz5_4 hfz5_5 hfz5_6 hfz5_7); (try clear hfz6_0 hfz6_1 hfz6_2 hfz6_3 hfz6_4 hfz6_5 hfz6_6 hfz6_7)
  obtain ⟨kq, x3_1, rfl, HA, HJ1, BK102, HB⟩ := hcut
  cases kq with
  | zero => exact absurd HA.out (by simp [syntax_shaped.j0])
  | succ kj1 =>
   have H := HA.out
   clear HA
   simp only [syntax_shaped.j0] at H
   by_cases c7 : a0_0 = 0
   ·
    rw [if_pos c7] at H
    have c7b0 : (a0_0 == 0) = true := beq_iff_eq.mpr c7
    have c7b1 : (a0_0 != 0) = false := bne_eq_false_iff_eq.mpr c7
    clear c7
    by_cases c8 : x3_1 = true
    ·
     subst c8
     have H1 : ((class_Empty.f a0_1 a0_2 a0_3 a0_4).bind fun t103 => (if t103 = true then (some ((l0_5.length : Int) == 0)) else (some false))) = some r := by rw [if_pos rfl] at H; exact H
     clear H
     have H := H1
     clear H1
     replace H := Option.bind_eq_some_iff.mp H
     obtain ⟨t103, A90, H⟩ := H
     replace H : (if t103 = true then (some ((l0_5.length : Int) == 0)) else (some false)) = some r := H
     have A9 := zL A90
     clear A90
     by_cases c10 : t103 = true
     ·
      subst c10
      have H1 : (some ((l0_5.length : Int) == 0)) = some r := by rw [if_pos rfl] at H; exact H
      clear H
      have H := H1
      clear H1
      obtain rfl := Option.some.inj H
      have hcz11_0 : wc.cell? ⟨gb102, 0, none⟩ = some (.int .i64 a0_0) := (zB BK102.out 0).trans rfl
      have hcz11_1 : wc.cell? ⟨gb102, 1, none⟩ = some (.int .u64 a0_1) := (zB BK102.out 1).trans rfl
      have hcz11_2 : wc.cell? ⟨gb102, 2, none⟩ = some (.int .u64 a0_2) := (zB BK102.out 2).trans rfl
      have hcz11_3 : wc.cell? ⟨gb102, 3, none⟩ = some (.int .u64 a0_3) := (zB BK102.out 3).trans rfl
      have hcz11_4 : wc.cell? ⟨gb102, 4, none⟩ = some (.int .u64 a0_4) := (zB BK102.out 4).trans rfl
      have hcz11_5 : wc.cell? ⟨gb102, 5, none⟩ = some (.slice A0_5 l0_5.length c0_5) := (zB BK102.out 5).trans rfl
      have hcz11_6 : wc.cell? ⟨gb102, 6, none⟩ = some (.int .i64 a0_6) := (zB BK102.out 6).trans rfl
      have hcz11_7 : wc.cell? ⟨gb102, 7, none⟩ = some (.int .i64 a0_7) := (zB BK102.out 7).trans rfl
      have hfz11_0 := zA BK102.out 0
      have hfz11_1 := zA BK102.out 1
      have hfz11_2 := zA BK102.out 2
      have hfz11_3 := zA BK102.out 3
      have hfz11_4 := zA BK102.out 4
      have hfz11_5 := zA BK102.out 5
      have hfz11_6 := zA BK102.out 6
      have hfz11_7 := zA BK102.out 7
      go_wp2_with (first | (go_at_call 26; (with_reducible refine (class_Empty.calls a0_1 a0_2 a0_3 a0_4 true _ A9.out).mono ?_); rintro e w12 ⟨rfl, hb⟩; have n0_ := zL (zK (g := gb102) (o := .cells #[.int .i64 a0_0, .int .u64 a0_1, .int .u64 a0_2, .int .u64 a0_3, .int .u64 a0_4, .slice A0_5 l0_5.length c0_5, .int .i64 a0_6, .int .i64 a0_7] 27 (0, 0)) (by (with_reducible repeat (first | refine zH ?_ _ | refine zI ?_ | refine zG ?_ _)); exact BK102.out) hb); have n1_ := zL (zJ (by repeat (first | (with_reducible first | exact HB.out | apply zE | apply zC | apply zD | refine zF ?_ GE102.out) | exact HB.out)) hb); clear BK102; clear HB; have BK102 := n0_; have HB := n1_; clear n0_ n1_; (try clear hb); (try clear hb2); (try clear hk); (try clear hi); have hcz13_0 : w12.cell? ⟨gb102, 0, none⟩ = some (.int .i64 a0_0) := (zB BK102.out 0).trans rfl; have hcz13_1 : w12.cell? ⟨gb102, 1, none⟩ = some (.int .u64 a0_1) := (zB BK102.out 1).trans rfl; have hcz13_2 : w12.cell? ⟨gb102, 2, none⟩ = some (.int .u64 a0_2) := (zB BK102.out 2).trans rfl; have hcz13_3 : w12.cell? ⟨gb102, 3, none⟩ = some (.int .u64 a0_3) := (zB BK102.out 3).trans rfl; have hcz13_4 : w12.cell? ⟨gb102, 4, none⟩ = some (.int .u64 a0_4) := (zB BK102.out 4).trans rfl; have hcz13_5 : w12.cell? ⟨gb102, 5, none⟩ = some (.slice A0_5 l0_5.length c0_5) := (zB BK102.out 5).trans rfl; have hcz13_6 : w12.cell? ⟨gb102, 6, none⟩ = some (.int .i64 a0_6) := (zB BK102.out 6).trans rfl; have hcz13_7 : w12.cell? ⟨gb102, 7, none⟩ = some (.int .i64 a0_7) := (zB BK102.out 7).trans rfl; have hfz13_0 := zA BK102.out 0; have hfz13_1 := zA BK102.out 1; have hfz13_2 := zA BK102.out 2; have hfz13_3 := zA BK102.out 3; have hfz13_4 := zA BK102.out 4; have hfz13_5 := zA BK102.out 5; have hfz13_6 := zA BK102.out 6; have hfz13_7 := zA BK102.out 7))
      go_ret
      exact ⟨by first | rfl | (simp [errW_none, errW_some] <;> rfl) | (simp [*, errW_none, errW_some] <;> rfl), by repeat (first | (with_reducible first | exact HB.out | apply zE | apply zC | apply zD | refine zF ?_ GE102.out) | exact HB.out)⟩
     ·
      replace c10 := Bool.eq_false_iff.mpr c10
      subst c10
      have H1 : (some false) = some r := by rw [if_neg (show ¬ (false = true) by decide)] at H; exact H
      clear H
      have H := H1
      clear H1
      obtain rfl := Option.some.inj H
      have hcz14_0 : wc.cell? ⟨gb102, 0, none⟩ = some (.int .i64 a0_0) := (zB BK102.out 0).trans rfl
      have hcz14_1 : wc.cell? ⟨gb102, 1, none⟩ = some (.int .u64 a0_1) := (zB BK102.out 1).trans rfl
      have hcz14_2 : wc.cell? ⟨gb102, 2, none⟩ = some (.int .u64 a0_2) := (zB BK102.out 2).trans rfl
      have hcz14_3 : wc.cell? ⟨gb102, 3, none⟩ = some (.int .u64 a0_3) := (zB BK102.out 3).trans rfl
      have hcz14_4 : wc.cell? ⟨gb102, 4, none⟩ = some (.int .u64 a0_4) := (zB BK102.out 4).trans rfl
      have hcz14_5 : wc.cell? ⟨gb102, 5, none⟩ = some (.slice A0_5 l0_5.length c0_5) := (zB BK102.out 5).trans rfl
      have hcz14_6 : wc.cell? ⟨gb102, 6, none⟩ = some (.int .i64 a0_6) := (zB BK102.out 6).trans rfl
      have hcz14_7 : wc.cell? ⟨gb102, 7, none⟩ = some (.int .i64 a0_7) := (zB BK102.out 7).trans rfl
      have hfz14_0 := zA BK102.out 0
      have hfz14_1 := zA BK102.out 1
      have hfz14_2 := zA BK102.out 2
      have hfz14_3 := zA BK102.out 3
      have hfz14_4 := zA BK102.out 4
      have hfz14_5 := zA BK102.out 5
      have hfz14_6 := zA BK102.out 6
      have hfz14_7 := zA BK102.out 7
      go_wp2_with (first | (go_at_call 26; (with_reducible refine (class_Empty.calls a0_1 a0_2 a0_3 a0_4 false _ A9.out).mono ?_); rintro e w15 ⟨rfl, hb⟩; have n0_ := zL (zK (g := gb102) (o := .cells #[.int .i64 a0_0, .int .u64 a0_1, .int .u64 a0_2, .int .u64 a0_3, .int .u64 a0_4, .slice A0_5 l0_5.length c0_5, .int .i64 a0_6, .int .i64 a0_7] 27 (0, 0)) (by (with_reducible repeat (first | refine zH ?_ _ | refine zI ?_ | refine zG ?_ _)); exact BK102.out) hb); have n1_ := zL (zJ (by repeat (first | (with_reducible first | exact HB.out | apply zE | apply zC | apply zD | refine zF ?_ GE102.out) | exact HB.out)) hb); clear BK102; clear HB; have BK102 := n0_; have HB := n1_; clear n0_ n1_; (try clear hb); (try clear hb2); (try clear hk); (try clear hi)))
      go_ret
      exact ⟨by first | rfl | (simp [errW_none, errW_some] <;> rfl) | (simp [*, errW_none, errW_some] <;> rfl), by repeat (first | (with_reducible first | exact HB.out | apply zE | apply zC | apply zD | refine zF ?_ GE102.out) | exact HB.out)⟩
    ·
     replace c8 := Bool.eq_false_iff.mpr c8
     subst c8
     have H1 : (some false) = some r := by rw [if_neg (show ¬ (false = true) by decide)] at H; exact H
     clear H
     have H := H1
     clear H1
     obtain rfl := Option.some.inj H
     have hcz16_0 : wc.cell? ⟨gb102, 0, none⟩ = some (.int .i64 a0_0) := (zB BK102.out 0).trans rfl
     have hcz16_1 : wc.cell? ⟨gb102, 1, none⟩ = some (.int .u64 a0_1) := (zB BK102.out 1).trans rfl
     have hcz16_2 : wc.cell? ⟨gb102, 2, none⟩ = some (.int .u64 a0_2) := (zB BK102.out 2).trans rfl
     have hcz16_3 : wc.cell? ⟨gb102, 3, none⟩ = some (.int .u64 a0_3) := (zB BK102.out 3).trans rfl
     have hcz16_4 : wc.cell? ⟨gb102, 4, none⟩ = some (.int .u64 a0_4) := (zB BK102.out 4).trans rfl
     have hcz16_5 : wc.cell? ⟨gb102, 5, none⟩ = some (.slice A0_5 l0_5.length c0_5) := (zB BK102.out 5).trans rfl
     have hcz16_6 : wc.cell? ⟨gb102, 6, none⟩ = some (.int .i64 a0_6) := (zB BK102.out 6).trans rfl
     have hcz16_7 : wc.cell? ⟨gb102, 7, none⟩ = some (.int .i64 a0_7) := (zB BK102.out 7).trans rfl
     have hfz16_0 := zA BK102.out 0
     have hfz16_1 := zA BK102.out 1
     have hfz16_2 := zA BK102.out 2
     have hfz16_3 := zA BK102.out 3
     have hfz16_4 := zA BK102.out 4
     have hfz16_5 := zA BK102.out 5
     have hfz16_6 := zA BK102.out 6
     have hfz16_7 := zA BK102.out 7
     go_wp2
     go_ret
     exact ⟨by first | rfl | (simp [errW_none, errW_some] <;> rfl) | (simp [*, errW_none, errW_some] <;> rfl), by repeat (first | (with_reducible first | exact HB.out | apply zE | apply zC | apply zD | refine zF ?_ GE102.out) | exact HB.out)⟩
   ·
    rw [if_neg c7] at H
    have c7b0 : (a0_0 == 0) = false := beq_eq_false_iff_ne.mpr c7
    have c7b1 : (a0_0 != 0) = true := bne_iff_ne.mpr c7
    by_cases c17 : a0_0 = 1
    ·
     rw [if_pos c17] at H
     have c17b0 : (a0_0 == 1) = true := beq_iff_eq.mpr c17
     have c17b1 : (a0_0 != 1) = false := bne_eq_false_iff_eq.mpr c17
     clear c17
     by_cases c18 : x3_1 = true
     ·
      subst c18
      have H1 : (some ((l0_5.length : Int) == 0)) = some r := by rw [if_pos rfl] at H; exact H
      clear H
      have H := H1
      clear H1
      obtain rfl := Option.some.inj H
      have hcz19_0 : wc.cell? ⟨gb102, 0, none⟩ = some (.int .i64 a0_0) := (zB BK102.out 0).trans rfl
      have hcz19_1 : wc.cell? ⟨gb102, 1, none⟩ = some (.int .u64 a0_1) := (zB BK102.out 1).trans rfl
      have hcz19_2 : wc.cell? ⟨gb102, 2, none⟩ = some (.int .u64 a0_2) := (zB BK102.out 2).trans rfl
      have hcz19_3 : wc.cell? ⟨gb102, 3, none⟩ = some (.int .u64 a0_3) := (zB BK102.out 3).trans rfl
      have hcz19_4 : wc.cell? ⟨gb102, 4, none⟩ = some (.int .u64 a0_4) := (zB BK102.out 4).trans rfl
      have hcz19_5 : wc.cell? ⟨gb102, 5, none⟩ = some (.slice A0_5 l0_5.length c0_5) := (zB BK102.out 5).trans rfl
      have hcz19_6 : wc.cell? ⟨gb102, 6, none⟩ = some (.int .i64 a0_6) := (zB BK102.out 6).trans rfl
      have hcz19_7 : wc.cell? ⟨gb102, 7, none⟩ = some (.int .i64 a0_7) := (zB BK102.out 7).trans rfl
      have hfz19_0 := zA BK102.out 0
      have hfz19_1 := zA BK102.out 1
      have hfz19_2 := zA BK102.out 2
      have hfz19_3 := zA BK102.out 3
      have hfz19_4 := zA BK102.out 4
      have hfz19_5 := zA BK102.out 5
      have hfz19_6 := zA BK102.out 6
      have hfz19_7 := zA BK102.out 7
      go_wp2
      go_ret
      exact ⟨by first | rfl | (simp [errW_none, errW_some] <;> rfl) | (simp [*, errW_none, errW_some] <;> rfl), by repeat (first | (with_reducible first | exact HB.out | apply zE | apply zC | apply zD | refine zF ?_ GE102.out) | exact HB.out)⟩
     ·
      replace c18 := Bool.eq_false_iff.mpr c18
      subst c18
      have H1 : (some false) = some r := by rw [if_neg (show ¬ (false = true) by decide)] at H; exact H
      clear H
      have H := H1
      clear H1
      obtain rfl := Option.some.inj H
      have hcz20_0 : wc.cell? ⟨gb102, 0, none⟩ = some (.int .i64 a0_0) := (zB BK102.out 0).trans rfl
      have hcz20_1 : wc.cell? ⟨gb102, 1, none⟩ = some (.int .u64 a0_1) := (zB BK102.out 1).trans rfl
      have hcz20_2 : wc.cell? ⟨gb102, 2, none⟩ = some (.int .u64 a0_2) := (zB BK102.out 2).trans rfl
      have hcz20_3 : wc.cell? ⟨gb102, 3, none⟩ = some (.int .u64 a0_3) := (zB BK102.out 3).trans rfl
      have hcz20_4 : wc.cell? ⟨gb102, 4, none⟩ = some (.int .u64 a0_4) := (zB BK102.out 4).trans rfl
      have hcz20_5 : wc.cell? ⟨gb102, 5, none⟩ = some (.slice A0_5 l0_5.length c0_5) := (zB BK102.out 5).trans rfl
      have hcz20_6 : wc.cell? ⟨gb102, 6, none⟩ = some (.int .i64 a0_6) := (zB BK102.out 6).trans rfl
      have hcz20_7 : wc.cell? ⟨gb102, 7, none⟩ = some (.int .i64 a0_7) := (zB BK102.out 7).trans rfl
      have hfz20_0 := zA BK102.out 0
      have hfz20_1 := zA BK102.out 1
      have hfz20_2 := zA BK102.out 2
      have hfz20_3 := zA BK102.out 3
      have hfz20_4 := zA BK102.out 4
      have hfz20_5 := zA BK102.out 5
      have hfz20_6 := zA BK102.out 6
      have hfz20_7 := zA BK102.out 7
      go_wp2
      go_ret
      exact ⟨by first | rfl | (simp [errW_none, errW_some] <;> rfl) | (simp [*, errW_none, errW_some] <;> rfl), by repeat (first | (with_reducible first | exact HB.out | apply zE | apply zC | apply zD | refine zF ?_ GE102.out) | exact HB.out)⟩
    ·
     rw [if_neg c17] at H
     have c17b0 : (a0_0 == 1) = false := beq_eq_false_iff_ne.mpr c17
     have c17b1 : (a0_0 != 1) = true := bne_iff_ne.mpr c17
     have HC21 := zL H
     clear H
     have hcz22_0 : wc.cell? ⟨gb102, 0, none⟩ = some (.int .i64 a0_0) := (zB BK102.out 0).trans rfl
     have hcz22_1 : wc.cell? ⟨gb102, 1, none⟩ = some (.int .u64 a0_1) := (zB BK102.out 1).trans rfl
     have hcz22_2 : wc.cell? ⟨gb102, 2, none⟩ = some (.int .u64 a0_2) := (zB BK102.out 2).trans rfl
     have hcz22_3 : wc.cell? ⟨gb102, 3, none⟩ = some (.int .u64 a0_3) := (zB BK102.out 3).trans rfl
     have hcz22_4 : wc.cell? ⟨gb102, 4, none⟩ = some (.int .u64 a0_4) := (zB BK102.out 4).trans rfl
     have hcz22_5 : wc.cell? ⟨gb102, 5, none⟩ = some (.slice A0_5 l0_5.length c0_5) := (zB BK102.out 5).trans rfl
     have hcz22_6 : wc.cell? ⟨gb102, 6, none⟩ = some (.int .i64 a0_6) := (zB BK102.out 6).trans rfl
     have hcz22_7 : wc.cell? ⟨gb102, 7, none⟩ = some (.int .i64 a0_7) := (zB BK102.out 7).trans rfl
     have hfz22_0 := zA BK102.out 0
     have hfz22_1 := zA BK102.out 1
     have hfz22_2 := zA BK102.out 2
     have hfz22_3 := zA BK102.out 3
     have hfz22_4 := zA BK102.out 4
     have hfz22_5 := zA BK102.out 5
     have hfz22_6 := zA BK102.out 6
     have hfz22_7 := zA BK102.out 7
     go_upto_if 37 with (fail)
     go_cut [37] (fun v37 wc => ∃ (kq : Nat) (x37_20 : Bool), v37 = .bool x37_20 ∧ Aside0 (syntax_shaped.j1 kq x3_1 a0_0 x37_20 a0_0 a0_1 a0_2 a0_3 a0_4 l0_5 a0_6 a0_7 = some r) ∧ Aside0 (kq ≤ kj1) ∧ Aside0 (wc.heap[gb102]? = some (.cells #[.int .i64 a0_0, .int .u64 a0_1, .int .u64 a0_2, .int .u64 a0_3, .int .u64 a0_4, (.slice A0_5 l0_5.length c0_5), .int .i64 a0_6, .int .i64 a0_7] 27 (0, 0))) ∧ Aside0 (Below w.heap.size w wc))
     case first =>
      have H := HC21.out
      clear HC21
      by_cases c23 : a0_0 = 2
      ·
       rw [if_pos c23] at H
       have c23b0 : (a0_0 == 2) = true := beq_iff_eq.mpr c23
       have c23b1 : (a0_0 != 2) = false := bne_eq_false_iff_eq.mpr c23
       clear c23
       (first | rw [c23b0] | (simp only [i64_w, i32_w]; rw [c23b0]) | skip)
       have H' := zL H
       clear H
       go_wp2
       go_meet
       case rel => exact ⟨_, ((a0_0 == 2)), (by first | rfl | (simp; done) | (simp [*]; done)), H', ⟨by have := HJ1.out; first | omega | exact Nat.le_refl _⟩, ⟨by (with_reducible repeat (first | refine zH ?_ _ | refine zI ?_ | refine zG ?_ _)); exact BK102.out⟩, ⟨by repeat (first | (with_reducible first | exact HB.out | apply zE | apply zC | apply zD | refine zF ?_ GE102.out) | exact HB.out)⟩⟩
      ·
       rw [if_neg c23] at H
       have c23b0 : (a0_0 == 2) = false := beq_eq_false_iff_ne.mpr c23
       have c23b1 : (a0_0 != 2) = true := bne_iff_ne.mpr c23
       (first | rw [c23b0] | (simp only [i64_w, i32_w]; rw [c23b0]) | skip)
       have H' := zL H
       clear H
       go_wp2
       go_meet
       case rel => exact ⟨_, ((a0_0 == 3)), (by first | rfl | (simp; done) | (simp [*]; done)), H', ⟨by have := HJ1.out; first | omega | exact Nat.le_refl _⟩, ⟨by (with_reducible repeat (first | refine zH ?_ _ | refine zI ?_ | refine zG ?_ _)); exact BK102.out⟩, ⟨by repeat (first | (with_reducible first | exact HB.out | apply zE | apply zC | apply zD | refine zF ?_ GE102.out) | exact HB.out)⟩⟩
     case rest =>
      clear HC21
      (try clear c1); (try clear c2); (try clear p2 p2); (try clear c4); (try clear c4b0); (try clear c4b1); (try clear c7); (try clear c7b0); (try clear c7b1); (try clear c8); (try clear c10); (try clear c17); (try clear c17b0); (try clear c17b1); (try clear c18); (try clear c23); (try clear c23b0); (try clear c23b1); (try clear hcz11_0 hcz11_1 hcz11_2 hcz11_3 hcz11_4 hcz11_5 hcz11_6 hcz11_7); (try clear hcz13_0 hcz13_1 hcz13_2 hcz13_3 hcz13_4 hcz13_5 hcz13_6 hcz13_7); (try clear hcz14_0 hcz14_1 hcz14_2 hcz14_3 hcz14_4 hcz14_5 hcz14_6 hcz14_7); (try clear hcz16_0 hcz16_1 hcz16_2 hcz16_3 hcz16_4 hcz16_5 hcz16_6 hcz16_7); (try clear hcz19_0 hcz19_1 hcz19_2 hcz19_3 hcz19_4 hcz19_5 hcz19_6 hcz19_7); (try clear hcz20_0 hcz20_1 hcz20_2 hcz20_3 hcz20_4 hcz20_5 hcz20_6 hcz20_7); (try clear hcz22_0 hcz22_1 hcz22_2 hcz22_3 hcz22_4 hcz22_5 hcz22_6 hcz22_7); (try clear hcz5_0 hcz5_1 hcz5_2 hcz5_3 hcz5_4 hcz5_5 hcz5_6 hcz5_7); (try clear hcz6_0 hcz6_1 hcz6_2 hcz6_3 hcz6_4 hcz6_5 hcz6_6 hcz6_7); (try clear hfz11_0 hfz11_1 hfz11_2 hfz11_3 hfz11_4 hfz11_5 hfz11_6 hfz11_7); (try clear hfz13_0 hfz13_1 hfz13_2 hfz13_3 hfz13_4 hfz13_5 hfz13_6 hfz13_7); (try clear hfz14_0 hfz14_1 hfz14_2 hfz14_3 hfz14_4 hfz14_5 hfz14_6 hfz14_7); (try clear hfz16_0 hfz16_1 hfz16_2 hfz16_3 hfz16_4 hfz16_5 hfz16_6 hfz16_7); (try clear hfz19_0 hfz19_1 hfz19_2 hfz19_3 hfz19_4 hfz19_5 hfz19_6 hfz19_7); (try clear hfz20_0 hfz20_1 hfz20_2 hfz20_3 hfz20_4 hfz20_5 hfz20_6 hfz20_7); (try clear hfz22_0 hfz22_1 hfz22_2 hfz22_3 hfz22_4 hfz22_5 hfz22_6 hfz22_7); (try clear hfz5_0 hfz5_1 hfz5_2 hfz5_3 hfz5_4 hfz5_5 hfz5_6 hfz5_7); (try clear hfz6_0 hfz6_1 hfz6_2 hfz6_3 hfz6_4 hfz6_5 hfz6_6 hfz6_7)
      obtain ⟨kq, x37_20, rfl, HA, HJ20, BK102, HB⟩ := hcut
      cases kq with
      | zero => exact absurd HA.out (by simp [syntax_shaped.j1])
      | succ kj20 =>
       have H := HA.out
       clear HA
       simp only [syntax_shaped.j1] at H
       by_cases c24 : x37_20 = true
       ·
        subst c24
        have H1 : (if x3_1 = true then ((class_Empty.f a0_1 a0_2 a0_3 a0_4).bind fun t104 => (if t104 = true then (some (decide ((l0_5.length : Int) ≥ 2))) else (some false))) else (some false)) = some r := by rw [if_pos rfl] at H; exact H
        clear H
        have H := H1
        clear H1
        by_cases c25 : x3_1 = true
        ·
         subst c25
         have H1 : ((class_Empty.f a0_1 a0_2 a0_3 a0_4).bind fun t104 => (if t104 = true then (some (decide ((l0_5.length : Int) ≥ 2))) else (some false))) = some r := by rw [if_pos rfl] at H; exact H
         clear H
         have H := H1
         clear H1
         replace H := Option.bind_eq_some_iff.mp H
         obtain ⟨t104, A260, H⟩ := H
         replace H : (if t104 = true then (some (decide ((l0_5.length : Int) ≥ 2))) else (some false)) = some r := H
         have A26 := zL A260
         clear A260
         by_cases c27 : t104 = true
         ·
          subst c27
          have H1 : (some (decide ((l0_5.length : Int) ≥ 2))) = some r := by rw [if_pos rfl] at H; exact H
          clear H
          have H := H1
          clear H1
          obtain rfl := Option.some.inj H
          have hcz28_0 : wc.cell? ⟨gb102, 0, none⟩ = some (.int .i64 a0_0) := (zB BK102.out 0).trans rfl
          have hcz28_1 : wc.cell? ⟨gb102, 1, none⟩ = some (.int .u64 a0_1) := (zB BK102.out 1).trans rfl
          have hcz28_2 : wc.cell? ⟨gb102, 2, none⟩ = some (.int .u64 a0_2) := (zB BK102.out 2).trans rfl
          have hcz28_3 : wc.cell? ⟨gb102, 3, none⟩ = some (.int .u64 a0_3) := (zB BK102.out 3).trans rfl
          have hcz28_4 : wc.cell? ⟨gb102, 4, none⟩ = some (.int .u64 a0_4) := (zB BK102.out 4).trans rfl
          have hcz28_5 : wc.cell? ⟨gb102, 5, none⟩ = some (.slice A0_5 l0_5.length c0_5) := (zB BK102.out 5).trans rfl
          have hcz28_6 : wc.cell? ⟨gb102, 6, none⟩ = some (.int .i64 a0_6) := (zB BK102.out 6).trans rfl
          have hcz28_7 : wc.cell? ⟨gb102, 7, none⟩ = some (.int .i64 a0_7) := (zB BK102.out 7).trans rfl
          have hfz28_0 := zA BK102.out 0
          have hfz28_1 := zA BK102.out 1
          have hfz28_2 := zA BK102.out 2
          have hfz28_3 := zA BK102.out 3
          have hfz28_4 := zA BK102.out 4
          have hfz28_5 := zA BK102.out 5
          have hfz28_6 := zA BK102.out 6
          have hfz28_7 := zA BK102.out 7
          go_wp2_with (first | (go_at_call 26; (with_reducible refine (class_Empty.calls a0_1 a0_2 a0_3 a0_4 true _ A26.out).mono ?_); rintro e w29 ⟨rfl, hb⟩; have n0_ := zL (zK (g := gb102) (o := .cells #[.int .i64 a0_0, .int .u64 a0_1, .int .u64 a0_2, .int .u64 a0_3, .int .u64 a0_4, .slice A0_5 l0_5.length c0_5, .int .i64 a0_6, .int .i64 a0_7] 27 (0, 0)) (by (with_reducible repeat (first | refine zH ?_ _ | refine zI ?_ | refine zG ?_ _)); exact BK102.out) hb); have n1_ := zL (zJ (by repeat (first | (with_reducible first | exact HB.out | apply zE | apply zC | apply zD | refine zF ?_ GE102.out) | exact HB.out)) hb); clear BK102; clear HB; have BK102 := n0_; have HB := n1_; clear n0_ n1_; (try clear hb); (try clear hb2); (try clear hk); (try clear hi); have hcz30_0 : w29.cell? ⟨gb102, 0, none⟩ = some (.int .i64 a0_0) := (zB BK102.out 0).trans rfl; have hcz30_1 : w29.cell? ⟨gb102, 1, none⟩ = some (.int .u64 a0_1) := (zB BK102.out 1).trans rfl; have hcz30_2 : w29.cell? ⟨gb102, 2, none⟩ = some (.int .u64 a0_2) := (zB BK102.out 2).trans rfl; have hcz30_3 : w29.cell? ⟨gb102, 3, none⟩ = some (.int .u64 a0_3) := (zB BK102.out 3).trans rfl; have hcz30_4 : w29.cell? ⟨gb102, 4, none⟩ = some (.int .u64 a0_4) := (zB BK102.out 4).trans rfl; have hcz30_5 : w29.cell? ⟨gb102, 5, none⟩ = some (.slice A0_5 l0_5.length c0_5) := (zB BK102.out 5).trans rfl; have hcz30_6 : w29.cell? ⟨gb102, 6, none⟩ = some (.int .i64 a0_6) := (zB BK102.out 6).trans rfl; have hcz30_7 : w29.cell? ⟨gb102, 7, none⟩ = some (.int .i64 a0_7) := (zB BK102.out 7).trans rfl; have hfz30_0 := zA BK102.out 0; have hfz30_1 := zA BK102.out 1; have hfz30_2 := zA BK102.out 2; have hfz30_3 := zA BK102.out 3; have hfz30_4 := zA BK102.out 4; have hfz30_5 := zA BK102.out 5; have hfz30_6 := zA BK102.out 6; have hfz30_7 := zA BK102.out 7))
          go_ret
          exact ⟨by first | rfl | (simp [errW_none, errW_some] <;> rfl) | (simp [*, errW_none, errW_some] <;> rfl), by repeat (first | (with_reducible first | exact HB.out | apply zE | apply zC | apply zD | refine zF ?_ GE102.out) | exact HB.out)⟩
         ·
          replace c27 := Bool.eq_false_iff.mpr c27
          subst c27
          have H1 : (some false) = some r := by rw [if_neg (show ¬ (false = true) by decide)] at H; exact H
          clear H
          have H := H1
          clear H1
          obtain rfl := Option.some.inj H
          have hcz31_0 : wc.cell? ⟨gb102, 0, none⟩ = some (.int .i64 a0_0) := (zB BK102.out 0).trans rfl
          have hcz31_1 : wc.cell? ⟨gb102, 1, none⟩ = some (.int .u64 a0_1) := (zB BK102.out 1).trans rfl
          have hcz31_2 : wc.cell? ⟨gb102, 2, none⟩ = some (.int .u64 a0_2) := (zB BK102.out 2).trans rfl
          have hcz31_3 : wc.cell? ⟨gb102, 3, none⟩ = some (.int .u64 a0_3) := (zB BK102.out 3).trans rfl
          have hcz31_4 : wc.cell? ⟨gb102, 4, none⟩ = some (.int .u64 a0_4) := (zB BK102.out 4).trans rfl
          have hcz31_5 : wc.cell? ⟨gb102, 5, none⟩ = some (.slice A0_5 l0_5.length c0_5) := (zB BK102.out 5).trans rfl
          have hcz31_6 : wc.cell? ⟨gb102, 6, none⟩ = some (.int .i64 a0_6) := (zB BK102.out 6).trans rfl
          have hcz31_7 : wc.cell? ⟨gb102, 7, none⟩ = some (.int .i64 a0_7) := (zB BK102.out 7).trans rfl
          have hfz31_0 := zA BK102.out 0
          have hfz31_1 := zA BK102.out 1
          have hfz31_2 := zA BK102.out 2
          have hfz31_3 := zA BK102.out 3
          have hfz31_4 := zA BK102.out 4
          have hfz31_5 := zA BK102.out 5
          have hfz31_6 := zA BK102.out 6
          have hfz31_7 := zA BK102.out 7
          go_wp2_with (first | (go_at_call 26; (with_reducible refine (class_Empty.calls a0_1 a0_2 a0_3 a0_4 false _ A26.out).mono ?_); rintro e w32 ⟨rfl, hb⟩; have n0_ := zL (zK (g := gb102) (o := .cells #[.int .i64 a0_0, .int .u64 a0_1, .int .u64 a0_2, .int .u64 a0_3, .int .u64 a0_4, .slice A0_5 l0_5.length c0_5, .int .i64 a0_6, .int .i64 a0_7] 27 (0, 0)) (by (with_reducible repeat (first | refine zH ?_ _ | refine zI ?_ | refine zG ?_ _)); exact BK102.out) hb); have n1_ := zL (zJ (by repeat (first | (with_reducible first | exact HB.out | apply zE | apply zC | apply zD | refine zF ?_ GE102.out) | exact HB.out)) hb); clear BK102; clear HB; have BK102 := n0_; have HB := n1_; clear n0_ n1_; (try clear hb); (try clear hb2); (try clear hk); (try clear hi)))
          go_ret
          exact ⟨by first | rfl | (simp [errW_none, errW_some] <;> rfl) | (simp [*, errW_none, errW_some] <;> rfl), by repeat (first | (with_reducible first | exact HB.out | apply zE | apply zC | apply zD | refine zF ?_ GE102.out) | exact HB.out)⟩
        ·
         replace c25 := Bool.eq_false_iff.mpr c25
         subst c25
         have H1 : (some false) = some r := by rw [if_neg (show ¬ (false = true) by decide)] at H; exact H
         clear H
         have H := H1
         clear H1
         obtain rfl := Option.some.inj H
         go_wp2
         go_ret
         exact ⟨by first | rfl | (simp [errW_none, errW_some] <;> rfl) | (simp [*, errW_none, errW_some] <;> rfl), by repeat (first | (with_reducible first | exact HB.out | apply zE | apply zC | apply zD | refine zF ?_ GE102.out) | exact HB.out)⟩
       ·
        replace c24 := Bool.eq_false_iff.mpr c24
        subst c24
        have H1 : (if a0_0 = 4 then ((class_Empty.f a0_1 a0_2 a0_3 a0_4).bind fun t105 => (if t105 = true then (if (l0_5.length : Int) = 1 then (if a0_6 ≥ 0 then (if a0_6 ≤ 2147483647 then (if a0_7 = (-1) then (some true) else (if a0_7 ≥ a0_6 then (some (decide (a0_7 ≤ 2147483647))) else (some false))) else (some false)) else (some false)) else (some false)) else (some false))) else (some false)) = some r := by rw [if_neg (show ¬ (false = true) by decide)] at H; exact H
        clear H
        have H := H1
        clear H1
        by_cases c33 : a0_0 = 4
        ·
         rw [if_pos c33] at H
         have c33b0 : (a0_0 == 4) = true := beq_iff_eq.mpr c33
         have c33b1 : (a0_0 != 4) = false := bne_eq_false_iff_eq.mpr c33
         clear c33
         replace H := Option.bind_eq_some_iff.mp H
         obtain ⟨t105, A340, H⟩ := H
         replace H : (if t105 = true then (if (l0_5.length : Int) = 1 then (if a0_6 ≥ 0 then (if a0_6 ≤ 2147483647 then (if a0_7 = (-1) then (some true) else (if a0_7 ≥ a0_6 then (some (decide (a0_7 ≤ 2147483647))) else (some false))) else (some false)) else (some false)) else (some false)) else (some false)) = some r := H
         have A34 := zL A340
         clear A340
         by_cases c35 : t105 = true
         ·
          subst c35
          have H1 : (if (l0_5.length : Int) = 1 then (if a0_6 ≥ 0 then (if a0_6 ≤ 2147483647 then (if a0_7 = (-1) then (some true) else (if a0_7 ≥ a0_6 then (some (decide (a0_7 ≤ 2147483647))) else (some false))) else (some false)) else (some false)) else (some false)) = some r := by rw [if_pos rfl] at H; exact H
          clear H
          have H := H1
          clear H1
          by_cases c36 : (l0_5.length : Int) = 1
          ·
           rw [if_pos c36] at H
           have c36b0 : ((l0_5.length : Int) == 1) = true := beq_iff_eq.mpr c36
           have c36b1 : ((l0_5.length : Int) != 1) = false := bne_eq_false_iff_eq.mpr c36
           clear c36
           by_cases c37 : a0_6 ≥ 0
           ·
            rw [if_pos c37] at H
            have c37b0 : decide (0 ≤ a0_6) = true := decide_eq_true c37
            clear c37
            by_cases c38 : a0_6 ≤ 2147483647
            ·
             rw [if_pos c38] at H
             have c38b0 : decide (a0_6 ≤ 2147483647) = true := decide_eq_true c38
             clear c38
             by_cases c39 : a0_7 = (-1)
             ·
              rw [if_pos c39] at H
              have c39b0 : (a0_7 == (-1)) = true := beq_iff_eq.mpr c39
              have c39b1 : (a0_7 != (-1)) = false := bne_eq_false_iff_eq.mpr c39
              clear c39
              obtain rfl := Option.some.inj H
              have hcz40_0 : wc.cell? ⟨gb102, 0, none⟩ = some (.int .i64 a0_0) := (zB BK102.out 0).trans rfl
              have hcz40_1 : wc.cell? ⟨gb102, 1, none⟩ = some (.int .u64 a0_1) := (zB BK102.out 1).trans rfl
              have hcz40_2 : wc.cell? ⟨gb102, 2, none⟩ = some (.int .u64 a0_2) := (zB BK102.out 2).trans rfl
              have hcz40_3 : wc.cell? ⟨gb102, 3, none⟩ = some (.int .u64 a0_3) := (zB BK102.out 3).trans rfl
              have hcz40_4 : wc.cell? ⟨gb102, 4, none⟩ = some (.int .u64 a0_4) := (zB BK102.out 4).trans rfl
              have hcz40_5 : wc.cell? ⟨gb102, 5, none⟩ = some (.slice A0_5 l0_5.length c0_5) := (zB BK102.out 5).trans rfl
              have hcz40_6 : wc.cell? ⟨gb102, 6, none⟩ = some (.int .i64 a0_6) := (zB BK102.out 6).trans rfl
              have hcz40_7 : wc.cell? ⟨gb102, 7, none⟩ = some (.int .i64 a0_7) := (zB BK102.out 7).trans rfl
              have hfz40_0 := zA BK102.out 0
              have hfz40_1 := zA BK102.out 1
              have hfz40_2 := zA BK102.out 2
              have hfz40_3 := zA BK102.out 3
              have hfz40_4 := zA BK102.out 4
              have hfz40_5 := zA BK102.out 5
              have hfz40_6 := zA BK102.out 6
              have hfz40_7 := zA BK102.out 7
              go_wp2_with (first | ((with_reducible refine gate_callee (f := 26) rfl ?_); refine goesL_ (some 56) rfl rfl Try.func26 (by kernel_rfl) rfl #[.agg #[.int .u64 a0_1, .int .u64 a0_2, .int .u64 a0_3, .int .u64 a0_4]] rfl (by (try simp only [List.map_toArray, List.map_cons, List.map_nil]); first | done | rfl | (simp only [List.length_drop, List.length_take]; rfl)) ?_; (with_reducible refine (class_Empty.calls a0_1 a0_2 a0_3 a0_4 true _ A34.out).mono ?_); rintro e w41 ⟨rfl, hb⟩; refine ⟨_, rfl, ?_⟩; have n0_ := zL (zK (g := gb102) (o := .cells #[.int .i64 a0_0, .int .u64 a0_1, .int .u64 a0_2, .int .u64 a0_3, .int .u64 a0_4, .slice A0_5 l0_5.length c0_5, .int .i64 a0_6, .int .i64 a0_7] 27 (0, 0)) (by (with_reducible repeat (first | refine zH ?_ _ | refine zI ?_ | refine zG ?_ _)); exact BK102.out) hb); have n1_ := zL (zJ (by repeat (first | (with_reducible first | exact HB.out | apply zE | apply zC | apply zD | refine zF ?_ GE102.out) | exact HB.out)) hb); clear BK102; clear HB; have BK102 := n0_; have HB := n1_; clear n0_ n1_; (try clear hb); (try clear hb2); (try clear hk); (try clear hi); have hcz42_0 : w41.cell? ⟨gb102, 0, none⟩ = some (.int .i64 a0_0) := (zB BK102.out 0).trans rfl; have hcz42_1 : w41.cell? ⟨gb102, 1, none⟩ = some (.int .u64 a0_1) := (zB BK102.out 1).trans rfl; have hcz42_2 : w41.cell? ⟨gb102, 2, none⟩ = some (.int .u64 a0_2) := (zB BK102.out 2).trans rfl; have hcz42_3 : w41.cell? ⟨gb102, 3, none⟩ = some (.int .u64 a0_3) := (zB BK102.out 3).trans rfl; have hcz42_4 : w41.cell? ⟨gb102, 4, none⟩ = some (.int .u64 a0_4) := (zB BK102.out 4).trans rfl; have hcz42_5 : w41.cell? ⟨gb102, 5, none⟩ = some (.slice A0_5 l0_5.length c0_5) := (zB BK102.out 5).trans rfl; have hcz42_6 : w41.cell? ⟨gb102, 6, none⟩ = some (.int .i64 a0_6) := (zB BK102.out 6).trans rfl; have hcz42_7 : w41.cell? ⟨gb102, 7, none⟩ = some (.int .i64 a0_7) := (zB BK102.out 7).trans rfl; have hfz42_0 := zA BK102.out 0; have hfz42_1 := zA BK102.out 1; have hfz42_2 := zA BK102.out 2; have hfz42_3 := zA BK102.out 3; have hfz42_4 := zA BK102.out 4; have hfz42_5 := zA BK102.out 5; have hfz42_6 := zA BK102.out 6; have hfz42_7 := zA BK102.out 7))
              go_ret
              exact ⟨by first | rfl | (simp [errW_none, errW_some] <;> rfl) | (simp [*, errW_none, errW_some] <;> rfl), by repeat (first | (with_reducible first | exact HB.out | apply zE | apply zC | apply zD | refine zF ?_ GE102.out) | exact HB.out)⟩
             ·
              rw [if_neg c39] at H
              have c39b0 : (a0_7 == (-1)) = false := beq_eq_false_iff_ne.mpr c39
              have c39b1 : (a0_7 != (-1)) = true := bne_iff_ne.mpr c39
              by_cases c43 : a0_7 ≥ a0_6
              ·
               rw [if_pos c43] at H
               have c43b0 : decide (a0_6 ≤ a0_7) = true := decide_eq_true c43
               clear c43
               obtain rfl := Option.some.inj H
               have hcz44_0 : wc.cell? ⟨gb102, 0, none⟩ = some (.int .i64 a0_0) := (zB BK102.out 0).trans rfl
               have hcz44_1 : wc.cell? ⟨gb102, 1, none⟩ = some (.int .u64 a0_1) := (zB BK102.out 1).trans rfl
               have hcz44_2 : wc.cell? ⟨gb102, 2, none⟩ = some (.int .u64 a0_2) := (zB BK102.out 2).trans rfl
               have hcz44_3 : wc.cell? ⟨gb102, 3, none⟩ = some (.int .u64 a0_3) := (zB BK102.out 3).trans rfl
               have hcz44_4 : wc.cell? ⟨gb102, 4, none⟩ = some (.int .u64 a0_4) := (zB BK102.out 4).trans rfl
               have hcz44_5 : wc.cell? ⟨gb102, 5, none⟩ = some (.slice A0_5 l0_5.length c0_5) := (zB BK102.out 5).trans rfl
               have hcz44_6 : wc.cell? ⟨gb102, 6, none⟩ = some (.int .i64 a0_6) := (zB BK102.out 6).trans rfl
               have hcz44_7 : wc.cell? ⟨gb102, 7, none⟩ = some (.int .i64 a0_7) := (zB BK102.out 7).trans rfl
               have hfz44_0 := zA BK102.out 0
               have hfz44_1 := zA BK102.out 1
               have hfz44_2 := zA BK102.out 2
               have hfz44_3 := zA BK102.out 3
               have hfz44_4 := zA BK102.out 4
               have hfz44_5 := zA BK102.out 5
               have hfz44_6 := zA BK102.out 6
               have hfz44_7 := zA BK102.out 7
               go_wp2_with (first | ((with_reducible refine gate_callee (f := 26) rfl ?_); refine goesL_ (some 56) rfl rfl Try.func26 (by kernel_rfl) rfl #[.agg #[.int .u64 a0_1, .int .u64 a0_2, .int .u64 a0_3, .int .u64 a0_4]] rfl (by (try simp only [List.map_toArray, List.map_cons, List.map_nil]); first | done | rfl | (simp only [List.length_drop, List.length_take]; rfl)) ?_; (with_reducible refine (class_Empty.calls a0_1 a0_2 a0_3 a0_4 true _ A34.out).mono ?_); rintro e w45 ⟨rfl, hb⟩; refine ⟨_, rfl, ?_⟩; have n0_ := zL (zK (g := gb102) (o := .cells #[.int .i64 a0_0, .int .u64 a0_1, .int .u64 a0_2, .int .u64 a0_3, .int .u64 a0_4, .slice A0_5 l0_5.length c0_5, .int .i64 a0_6, .int .i64 a0_7] 27 (0, 0)) (by (with_reducible repeat (first | refine zH ?_ _ | refine zI ?_ | refine zG ?_ _)); exact BK102.out) hb); have n1_ := zL (zJ (by repeat (first | (with_reducible first | exact HB.out | apply zE | apply zC | apply zD | refine zF ?_ GE102.out) | exact HB.out)) hb); clear BK102; clear HB; have BK102 := n0_; have HB := n1_; clear n0_ n1_; (try clear hb); (try clear hb2); (try clear hk); (try clear hi); have hcz46_0 : w45.cell? ⟨gb102, 0, none⟩ = some (.int .i64 a0_0) := (zB BK102.out 0).trans rfl; have hcz46_1 : w45.cell? ⟨gb102, 1, none⟩ = some (.int .u64 a0_1) := (zB BK102.out 1).trans rfl; have hcz46_2 : w45.cell? ⟨gb102, 2, none⟩ = some (.int .u64 a0_2) := (zB BK102.out 2).trans rfl; have hcz46_3 : w45.cell? ⟨gb102, 3, none⟩ = some (.int .u64 a0_3) := (zB BK102.out 3).trans rfl; have hcz46_4 : w45.cell? ⟨gb102, 4, none⟩ = some (.int .u64 a0_4) := (zB BK102.out 4).trans rfl; have hcz46_5 : w45.cell? ⟨gb102, 5, none⟩ = some (.slice A0_5 l0_5.length c0_5) := (zB BK102.out 5).trans rfl; have hcz46_6 : w45.cell? ⟨gb102, 6, none⟩ = some (.int .i64 a0_6) := (zB BK102.out 6).trans rfl; have hcz46_7 : w45.cell? ⟨gb102, 7, none⟩ = some (.int .i64 a0_7) := (zB BK102.out 7).trans rfl; have hfz46_0 := zA BK102.out 0; have hfz46_1 := zA BK102.out 1; have hfz46_2 := zA BK102.out 2; have hfz46_3 := zA BK102.out 3; have hfz46_4 := zA BK102.out 4; have hfz46_5 := zA BK102.out 5; have hfz46_6 := zA BK102.out 6; have hfz46_7 := zA BK102.out 7))
               go_ret
               exact ⟨by first | rfl | (simp [errW_none, errW_some] <;> rfl) | (simp [*, errW_none, errW_some] <;> rfl), by repeat (first | (with_reducible first | exact HB.out | apply zE | apply zC | apply zD | refine zF ?_ GE102.out) | exact HB.out)⟩
              ·
               rw [if_neg c43] at H
               have c43b0 : decide (a0_6 ≤ a0_7) = false := decide_eq_false c43
               clear c43
               obtain rfl := Option.some.inj H
               have hcz47_0 : wc.cell? ⟨gb102, 0, none⟩ = some (.int .i64 a0_0) := (zB BK102.out 0).trans rfl
               have hcz47_1 : wc.cell? ⟨gb102, 1, none⟩ = some (.int .u64 a0_1) := (zB BK102.out 1).trans rfl
               have hcz47_2 : wc.cell? ⟨gb102, 2, none⟩ = some (.int .u64 a0_2) := (zB BK102.out 2).trans rfl
               have hcz47_3 : wc.cell? ⟨gb102, 3, none⟩ = some (.int .u64 a0_3) := (zB BK102.out 3).trans rfl
               have hcz47_4 : wc.cell? ⟨gb102, 4, none⟩ = some (.int .u64 a0_4) := (zB BK102.out 4).trans rfl
               have hcz47_5 : wc.cell? ⟨gb102, 5, none⟩ = some (.slice A0_5 l0_5.length c0_5) := (zB BK102.out 5).trans rfl
               have hcz47_6 : wc.cell? ⟨gb102, 6, none⟩ = some (.int .i64 a0_6) := (zB BK102.out 6).trans rfl
               have hcz47_7 : wc.cell? ⟨gb102, 7, none⟩ = some (.int .i64 a0_7) := (zB BK102.out 7).trans rfl
               have hfz47_0 := zA BK102.out 0
               have hfz47_1 := zA BK102.out 1
               have hfz47_2 := zA BK102.out 2
               have hfz47_3 := zA BK102.out 3
               have hfz47_4 := zA BK102.out 4
               have hfz47_5 := zA BK102.out 5
               have hfz47_6 := zA BK102.out 6
               have hfz47_7 := zA BK102.out 7
               go_wp2_with (first | ((with_reducible refine gate_callee (f := 26) rfl ?_); refine goesL_ (some 56) rfl rfl Try.func26 (by kernel_rfl) rfl #[.agg #[.int .u64 a0_1, .int .u64 a0_2, .int .u64 a0_3, .int .u64 a0_4]] rfl (by (try simp only [List.map_toArray, List.map_cons, List.map_nil]); first | done | rfl | (simp only [List.length_drop, List.length_take]; rfl)) ?_; (with_reducible refine (class_Empty.calls a0_1 a0_2 a0_3 a0_4 true _ A34.out).mono ?_); rintro e w48 ⟨rfl, hb⟩; refine ⟨_, rfl, ?_⟩; have n0_ := zL (zK (g := gb102) (o := .cells #[.int .i64 a0_0, .int .u64 a0_1, .int .u64 a0_2, .int .u64 a0_3, .int .u64 a0_4, .slice A0_5 l0_5.length c0_5, .int .i64 a0_6, .int .i64 a0_7] 27 (0, 0)) (by (with_reducible repeat (first | refine zH ?_ _ | refine zI ?_ | refine zG ?_ _)); exact BK102.out) hb); have n1_ := zL (zJ (by repeat (first | (with_reducible first | exact HB.out | apply zE | apply zC | apply zD | refine zF ?_ GE102.out) | exact HB.out)) hb); clear BK102; clear HB; have BK102 := n0_; have HB := n1_; clear n0_ n1_; (try clear hb); (try clear hb2); (try clear hk); (try clear hi); have hcz49_0 : w48.cell? ⟨gb102, 0, none⟩ = some (.int .i64 a0_0) := (zB BK102.out 0).trans rfl; have hcz49_1 : w48.cell? ⟨gb102, 1, none⟩ = some (.int .u64 a0_1) := (zB BK102.out 1).trans rfl; have hcz49_2 : w48.cell? ⟨gb102, 2, none⟩ = some (.int .u64 a0_2) := (zB BK102.out 2).trans rfl; have hcz49_3 : w48.cell? ⟨gb102, 3, none⟩ = some (.int .u64 a0_3) := (zB BK102.out 3).trans rfl; have hcz49_4 : w48.cell? ⟨gb102, 4, none⟩ = some (.int .u64 a0_4) := (zB BK102.out 4).trans rfl; have hcz49_5 : w48.cell? ⟨gb102, 5, none⟩ = some (.slice A0_5 l0_5.length c0_5) := (zB BK102.out 5).trans rfl; have hcz49_6 : w48.cell? ⟨gb102, 6, none⟩ = some (.int .i64 a0_6) := (zB BK102.out 6).trans rfl; have hcz49_7 : w48.cell? ⟨gb102, 7, none⟩ = some (.int .i64 a0_7) := (zB BK102.out 7).trans rfl; have hfz49_0 := zA BK102.out 0; have hfz49_1 := zA BK102.out 1; have hfz49_2 := zA BK102.out 2; have hfz49_3 := zA BK102.out 3; have hfz49_4 := zA BK102.out 4; have hfz49_5 := zA BK102.out 5; have hfz49_6 := zA BK102.out 6; have hfz49_7 := zA BK102.out 7))
               go_ret
               exact ⟨by first | rfl | (simp [errW_none, errW_some] <;> rfl) | (simp [*, errW_none, errW_some] <;> rfl), by repeat (first | (with_reducible first | exact HB.out | apply zE | apply zC | apply zD | refine zF ?_ GE102.out) | exact HB.out)⟩
            ·
             rw [if_neg c38] at H
             have c38b0 : decide (a0_6 ≤ 2147483647) = false := decide_eq_false c38
             clear c38
             obtain rfl := Option.some.inj H
             have hcz50_0 : wc.cell? ⟨gb102, 0, none⟩ = some (.int .i64 a0_0) := (zB BK102.out 0).trans rfl
             have hcz50_1 : wc.cell? ⟨gb102, 1, none⟩ = some (.int .u64 a0_1) := (zB BK102.out 1).trans rfl
             have hcz50_2 : wc.cell? ⟨gb102, 2, none⟩ = some (.int .u64 a0_2) := (zB BK102.out 2).trans rfl
             have hcz50_3 : wc.cell? ⟨gb102, 3, none⟩ = some (.int .u64 a0_3) := (zB BK102.out 3).trans rfl
             have hcz50_4 : wc.cell? ⟨gb102, 4, none⟩ = some (.int .u64 a0_4) := (zB BK102.out 4).trans rfl
             have hcz50_5 : wc.cell? ⟨gb102, 5, none⟩ = some (.slice A0_5 l0_5.length c0_5) := (zB BK102.out 5).trans rfl
             have hcz50_6 : wc.cell? ⟨gb102, 6, none⟩ = some (.int .i64 a0_6) := (zB BK102.out 6).trans rfl
             have hcz50_7 : wc.cell? ⟨gb102, 7, none⟩ = some (.int .i64 a0_7) := (zB BK102.out 7).trans rfl
             have hfz50_0 := zA BK102.out 0
             have hfz50_1 := zA BK102.out 1
             have hfz50_2 := zA BK102.out 2
             have hfz50_3 := zA BK102.out 3
             have hfz50_4 := zA BK102.out 4
             have hfz50_5 := zA BK102.out 5
             have hfz50_6 := zA BK102.out 6
             have hfz50_7 := zA BK102.out 7
             go_wp2_with (first | ((with_reducible refine gate_callee (f := 26) rfl ?_); refine goesL_ (some 56) rfl rfl Try.func26 (by kernel_rfl) rfl #[.agg #[.int .u64 a0_1, .int .u64 a0_2, .int .u64 a0_3, .int .u64 a0_4]] rfl (by (try simp only [List.map_toArray, List.map_cons, List.map_nil]); first | done | rfl | (simp only [List.length_drop, List.length_take]; rfl)) ?_; (with_reducible refine (class_Empty.calls a0_1 a0_2 a0_3 a0_4 true _ A34.out).mono ?_); rintro e w51 ⟨rfl, hb⟩; refine ⟨_, rfl, ?_⟩; have n0_ := zL (zK (g := gb102) (o := .cells #[.int .i64 a0_0, .int .u64 a0_1, .int .u64 a0_2, .int .u64 a0_3, .int .u64 a0_4, .slice A0_5 l0_5.length c0_5, .int .i64 a0_6, .int .i64 a0_7] 27 (0, 0)) (by (with_reducible repeat (first | refine zH ?_ _ | refine zI ?_ | refine zG ?_ _)); exact BK102.out) hb); have n1_ := zL (zJ (by repeat (first | (with_reducible first | exact HB.out | apply zE | apply zC | apply zD | refine zF ?_ GE102.out) | exact HB.out)) hb); clear BK102; clear HB; have BK102 := n0_; have HB := n1_; clear n0_ n1_; (try clear hb); (try clear hb2); (try clear hk); (try clear hi); have hcz52_0 : w51.cell? ⟨gb102, 0, none⟩ = some (.int .i64 a0_0) := (zB BK102.out 0).trans rfl; have hcz52_1 : w51.cell? ⟨gb102, 1, none⟩ = some (.int .u64 a0_1) := (zB BK102.out 1).trans rfl; have hcz52_2 : w51.cell? ⟨gb102, 2, none⟩ = some (.int .u64 a0_2) := (zB BK102.out 2).trans rfl; have hcz52_3 : w51.cell? ⟨gb102, 3, none⟩ = some (.int .u64 a0_3) := (zB BK102.out 3).trans rfl; have hcz52_4 : w51.cell? ⟨gb102, 4, none⟩ = some (.int .u64 a0_4) := (zB BK102.out 4).trans rfl; have hcz52_5 : w51.cell? ⟨gb102, 5, none⟩ = some (.slice A0_5 l0_5.length c0_5) := (zB BK102.out 5).trans rfl; have hcz52_6 : w51.cell? ⟨gb102, 6, none⟩ = some (.int .i64 a0_6) := (zB BK102.out 6).trans rfl; have hcz52_7 : w51.cell? ⟨gb102, 7, none⟩ = some (.int .i64 a0_7) := (zB BK102.out 7).trans rfl; have hfz52_0 := zA BK102.out 0; have hfz52_1 := zA BK102.out 1; have hfz52_2 := zA BK102.out 2; have hfz52_3 := zA BK102.out 3; have hfz52_4 := zA BK102.out 4; have hfz52_5 := zA BK102.out 5; have hfz52_6 := zA BK102.out 6; have hfz52_7 := zA BK102.out 7))
             go_ret
             exact ⟨by first | rfl | (simp [errW_none, errW_some] <;> rfl) | (simp [*, errW_none, errW_some] <;> rfl), by repeat (first | (with_reducible first | exact HB.out | apply zE | apply zC | apply zD | refine zF ?_ GE102.out) | exact HB.out)⟩
           ·
            rw [if_neg c37] at H
            have c37b0 : decide (0 ≤ a0_6) = false := decide_eq_false c37
            clear c37
            obtain rfl := Option.some.inj H
            have hcz53_0 : wc.cell? ⟨gb102, 0, none⟩ = some (.int .i64 a0_0) := (zB BK102.out 0).trans rfl
            have hcz53_1 : wc.cell? ⟨gb102, 1, none⟩ = some (.int .u64 a0_1) := (zB BK102.out 1).trans rfl
            have hcz53_2 : wc.cell? ⟨gb102, 2, none⟩ = some (.int .u64 a0_2) := (zB BK102.out 2).trans rfl
            have hcz53_3 : wc.cell? ⟨gb102, 3, none⟩ = some (.int .u64 a0_3) := (zB BK102.out 3).trans rfl
            have hcz53_4 : wc.cell? ⟨gb102, 4, none⟩ = some (.int .u64 a0_4) := (zB BK102.out 4).trans rfl
            have hcz53_5 : wc.cell? ⟨gb102, 5, none⟩ = some (.slice A0_5 l0_5.length c0_5) := (zB BK102.out 5).trans rfl
            have hcz53_6 : wc.cell? ⟨gb102, 6, none⟩ = some (.int .i64 a0_6) := (zB BK102.out 6).trans rfl
            have hcz53_7 : wc.cell? ⟨gb102, 7, none⟩ = some (.int .i64 a0_7) := (zB BK102.out 7).trans rfl
            have hfz53_0 := zA BK102.out 0
            have hfz53_1 := zA BK102.out 1
            have hfz53_2 := zA BK102.out 2
            have hfz53_3 := zA BK102.out 3
            have hfz53_4 := zA BK102.out 4
            have hfz53_5 := zA BK102.out 5
            have hfz53_6 := zA BK102.out 6
            have hfz53_7 := zA BK102.out 7
            go_wp2_with (first | ((with_reducible refine gate_callee (f := 26) rfl ?_); refine goesL_ (some 56) rfl rfl Try.func26 (by kernel_rfl) rfl #[.agg #[.int .u64 a0_1, .int .u64 a0_2, .int .u64 a0_3, .int .u64 a0_4]] rfl (by (try simp only [List.map_toArray, List.map_cons, List.map_nil]); first | done | rfl | (simp only [List.length_drop, List.length_take]; rfl)) ?_; (with_reducible refine (class_Empty.calls a0_1 a0_2 a0_3 a0_4 true _ A34.out).mono ?_); rintro e w54 ⟨rfl, hb⟩; refine ⟨_, rfl, ?_⟩; have n0_ := zL (zK (g := gb102) (o := .cells #[.int .i64 a0_0, .int .u64 a0_1, .int .u64 a0_2, .int .u64 a0_3, .int .u64 a0_4, .slice A0_5 l0_5.length c0_5, .int .i64 a0_6, .int .i64 a0_7] 27 (0, 0)) (by (with_reducible repeat (first | refine zH ?_ _ | refine zI ?_ | refine zG ?_ _)); exact BK102.out) hb); have n1_ := zL (zJ (by repeat (first | (with_reducible first | exact HB.out | apply zE | apply zC | apply zD | refine zF ?_ GE102.out) | exact HB.out)) hb); clear BK102; clear HB; have BK102 := n0_; have HB := n1_; clear n0_ n1_; (try clear hb); (try clear hb2); (try clear hk); (try clear hi); have hcz55_0 : w54.cell? ⟨gb102, 0, none⟩ = some (.int .i64 a0_0) := (zB BK102.out 0).trans rfl; have hcz55_1 : w54.cell? ⟨gb102, 1, none⟩ = some (.int .u64 a0_1) := (zB BK102.out 1).trans rfl; have hcz55_2 : w54.cell? ⟨gb102, 2, none⟩ = some (.int .u64 a0_2) := (zB BK102.out 2).trans rfl; have hcz55_3 : w54.cell? ⟨gb102, 3, none⟩ = some (.int .u64 a0_3) := (zB BK102.out 3).trans rfl; have hcz55_4 : w54.cell? ⟨gb102, 4, none⟩ = some (.int .u64 a0_4) := (zB BK102.out 4).trans rfl; have hcz55_5 : w54.cell? ⟨gb102, 5, none⟩ = some (.slice A0_5 l0_5.length c0_5) := (zB BK102.out 5).trans rfl; have hcz55_6 : w54.cell? ⟨gb102, 6, none⟩ = some (.int .i64 a0_6) := (zB BK102.out 6).trans rfl; have hcz55_7 : w54.cell? ⟨gb102, 7, none⟩ = some (.int .i64 a0_7) := (zB BK102.out 7).trans rfl; have hfz55_0 := zA BK102.out 0; have hfz55_1 := zA BK102.out 1; have hfz55_2 := zA BK102.out 2; have hfz55_3 := zA BK102.out 3; have hfz55_4 := zA BK102.out 4; have hfz55_5 := zA BK102.out 5; have hfz55_6 := zA BK102.out 6; have hfz55_7 := zA BK102.out 7))
            go_ret
            exact ⟨by first | rfl | (simp [errW_none, errW_some] <;> rfl) | (simp [*, errW_none, errW_some] <;> rfl), by repeat (first | (with_reducible first | exact HB.out | apply zE | apply zC | apply zD | refine zF ?_ GE102.out) | exact HB.out)⟩
          ·
           rw [if_neg c36] at H
           have c36b0 : ((l0_5.length : Int) == 1) = false := beq_eq_false_iff_ne.mpr c36
           have c36b1 : ((l0_5.length : Int) != 1) = true := bne_iff_ne.mpr c36
           obtain rfl := Option.some.inj H
           have hcz56_0 : wc.cell? ⟨gb102, 0, none⟩ = some (.int .i64 a0_0) := (zB BK102.out 0).trans rfl
           have hcz56_1 : wc.cell? ⟨gb102, 1, none⟩ = some (.int .u64 a0_1) := (zB BK102.out 1).trans rfl
           have hcz56_2 : wc.cell? ⟨gb102, 2, none⟩ = some (.int .u64 a0_2) := (zB BK102.out 2).trans rfl
           have hcz56_3 : wc.cell? ⟨gb102, 3, none⟩ = some (.int .u64 a0_3) := (zB BK102.out 3).trans rfl
           have hcz56_4 : wc.cell? ⟨gb102, 4, none⟩ = some (.int .u64 a0_4) := (zB BK102.out 4).trans rfl
           have hcz56_5 : wc.cell? ⟨gb102, 5, none⟩ = some (.slice A0_5 l0_5.length c0_5) := (zB BK102.out 5).trans rfl
           have hcz56_6 : wc.cell? ⟨gb102, 6, none⟩ = some (.int .i64 a0_6) := (zB BK102.out 6).trans rfl
           have hcz56_7 : wc.cell? ⟨gb102, 7, none⟩ = some (.int .i64 a0_7) := (zB BK102.out 7).trans rfl
           have hfz56_0 := zA BK102.out 0
           have hfz56_1 := zA BK102.out 1
           have hfz56_2 := zA BK102.out 2
           have hfz56_3 := zA BK102.out 3
           have hfz56_4 := zA BK102.out 4
           have hfz56_5 := zA BK102.out 5
           have hfz56_6 := zA BK102.out 6
           have hfz56_7 := zA BK102.out 7
           go_wp2_with (first | ((with_reducible refine gate_callee (f := 26) rfl ?_); refine goesL_ (some 56) rfl rfl Try.func26 (by kernel_rfl) rfl #[.agg #[.int .u64 a0_1, .int .u64 a0_2, .int .u64 a0_3, .int .u64 a0_4]] rfl (by (try simp only [List.map_toArray, List.map_cons, List.map_nil]); first | done | rfl | (simp only [List.length_drop, List.length_take]; rfl)) ?_; (with_reducible refine (class_Empty.calls a0_1 a0_2 a0_3 a0_4 true _ A34.out).mono ?_); rintro e w57 ⟨rfl, hb⟩; refine ⟨_, rfl, ?_⟩; have n0_ := zL (zK (g := gb102) (o := .cells #[.int .i64 a0_0, .int .u64 a0_1, .int .u64 a0_2, .int .u64 a0_3, .int .u64 a0_4, .slice A0_5 l0_5.length c0_5, .int .i64 a0_6, .int .i64 a0_7] 27 (0, 0)) (by (with_reducible repeat (first | refine zH ?_ _ | refine zI ?_ | refine zG ?_ _)); exact BK102.out) hb); have n1_ := zL (zJ (by repeat (first | (with_reducible first | exact HB.out | apply zE | apply zC | apply zD | refine zF ?_ GE102.out) | exact HB.out)) hb); clear BK102; clear HB; have BK102 := n0_; have HB := n1_; clear n0_ n1_; (try clear hb); (try clear hb2); (try clear hk); (try clear hi); have hcz58_0 : w57.cell? ⟨gb102, 0, none⟩ = some (.int .i64 a0_0) := (zB BK102.out 0).trans rfl; have hcz58_1 : w57.cell? ⟨gb102, 1, none⟩ = some (.int .u64 a0_1) := (zB BK102.out 1).trans rfl; have hcz58_2 : w57.cell? ⟨gb102, 2, none⟩ = some (.int .u64 a0_2) := (zB BK102.out 2).trans rfl; have hcz58_3 : w57.cell? ⟨gb102, 3, none⟩ = some (.int .u64 a0_3) := (zB BK102.out 3).trans rfl; have hcz58_4 : w57.cell? ⟨gb102, 4, none⟩ = some (.int .u64 a0_4) := (zB BK102.out 4).trans rfl; have hcz58_5 : w57.cell? ⟨gb102, 5, none⟩ = some (.slice A0_5 l0_5.length c0_5) := (zB BK102.out 5).trans rfl; have hcz58_6 : w57.cell? ⟨gb102, 6, none⟩ = some (.int .i64 a0_6) := (zB BK102.out 6).trans rfl; have hcz58_7 : w57.cell? ⟨gb102, 7, none⟩ = some (.int .i64 a0_7) := (zB BK102.out 7).trans rfl; have hfz58_0 := zA BK102.out 0; have hfz58_1 := zA BK102.out 1; have hfz58_2 := zA BK102.out 2; have hfz58_3 := zA BK102.out 3; have hfz58_4 := zA BK102.out 4; have hfz58_5 := zA BK102.out 5; have hfz58_6 := zA BK102.out 6; have hfz58_7 := zA BK102.out 7))
           go_ret
           exact ⟨by first | rfl | (simp [errW_none, errW_some] <;> rfl) | (simp [*, errW_none, errW_some] <;> rfl), by repeat (first | (with_reducible first | exact HB.out | apply zE | apply zC | apply zD | refine zF ?_ GE102.out) | exact HB.out)⟩
         ·
          replace c35 := Bool.eq_false_iff.mpr c35
          subst c35
          have H1 : (some false) = some r := by rw [if_neg (show ¬ (false = true) by decide)] at H; exact H
          clear H
          have H := H1
          clear H1
          obtain rfl := Option.some.inj H
          have hcz59_0 : wc.cell? ⟨gb102, 0, none⟩ = some (.int .i64 a0_0) := (zB BK102.out 0).trans rfl
          have hcz59_1 : wc.cell? ⟨gb102, 1, none⟩ = some (.int .u64 a0_1) := (zB BK102.out 1).trans rfl
          have hcz59_2 : wc.cell? ⟨gb102, 2, none⟩ = some (.int .u64 a0_2) := (zB BK102.out 2).trans rfl
          have hcz59_3 : wc.cell? ⟨gb102, 3, none⟩ = some (.int .u64 a0_3) := (zB BK102.out 3).trans rfl
          have hcz59_4 : wc.cell? ⟨gb102, 4, none⟩ = some (.int .u64 a0_4) := (zB BK102.out 4).trans rfl
          have hcz59_5 : wc.cell? ⟨gb102, 5, none⟩ = some (.slice A0_5 l0_5.length c0_5) := (zB BK102.out 5).trans rfl
          have hcz59_6 : wc.cell? ⟨gb102, 6, none⟩ = some (.int .i64 a0_6) := (zB BK102.out 6).trans rfl
          have hcz59_7 : wc.cell? ⟨gb102, 7, none⟩ = some (.int .i64 a0_7) := (zB BK102.out 7).trans rfl
          have hfz59_0 := zA BK102.out 0
          have hfz59_1 := zA BK102.out 1
          have hfz59_2 := zA BK102.out 2
          have hfz59_3 := zA BK102.out 3
          have hfz59_4 := zA BK102.out 4
          have hfz59_5 := zA BK102.out 5
          have hfz59_6 := zA BK102.out 6
          have hfz59_7 := zA BK102.out 7
          go_wp2_with (first | ((with_reducible refine gate_callee (f := 26) rfl ?_); refine goesL_ (some 56) rfl rfl Try.func26 (by kernel_rfl) rfl #[.agg #[.int .u64 a0_1, .int .u64 a0_2, .int .u64 a0_3, .int .u64 a0_4]] rfl (by (try simp only [List.map_toArray, List.map_cons, List.map_nil]); first | done | rfl | (simp only [List.length_drop, List.length_take]; rfl)) ?_; (with_reducible refine (class_Empty.calls a0_1 a0_2 a0_3 a0_4 false _ A34.out).mono ?_); rintro e w60 ⟨rfl, hb⟩; refine ⟨_, rfl, ?_⟩; have n0_ := zL (zK (g := gb102) (o := .cells #[.int .i64 a0_0, .int .u64 a0_1, .int .u64 a0_2, .int .u64 a0_3, .int .u64 a0_4, .slice A0_5 l0_5.length c0_5, .int .i64 a0_6, .int .i64 a0_7] 27 (0, 0)) (by (with_reducible repeat (first | refine zH ?_ _ | refine zI ?_ | refine zG ?_ _)); exact BK102.out) hb); have n1_ := zL (zJ (by repeat (first | (with_reducible first | exact HB.out | apply zE | apply zC | apply zD | refine zF ?_ GE102.out) | exact HB.out)) hb); clear BK102; clear HB; have BK102 := n0_; have HB := n1_; clear n0_ n1_; (try clear hb); (try clear hb2); (try clear hk); (try clear hi)))
          go_ret
          exact ⟨by first | rfl | (simp [errW_none, errW_some] <;> rfl) | (simp [*, errW_none, errW_some] <;> rfl), by repeat (first | (with_reducible first | exact HB.out | apply zE | apply zC | apply zD | refine zF ?_ GE102.out) | exact HB.out)⟩
        ·
         rw [if_neg c33] at H
         have c33b0 : (a0_0 == 4) = false := beq_eq_false_iff_ne.mpr c33
         have c33b1 : (a0_0 != 4) = true := bne_iff_ne.mpr c33
         obtain rfl := Option.some.inj H
         go_wp2
         go_ret
         exact ⟨by first | rfl | (simp [errW_none, errW_some] <;> rfl) | (simp [*, errW_none, errW_some] <;> rfl), by repeat (first | (with_reducible first | exact HB.out | apply zE | apply zC | apply zD | refine zF ?_ GE102.out) | exact HB.out)⟩

end Go.Proofs.Ytlnhiogpjdhhbaa.P
