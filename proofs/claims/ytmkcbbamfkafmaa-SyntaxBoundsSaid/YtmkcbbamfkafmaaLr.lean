/- SyntaxBounds: the walk. -/
import Derived.Test.YtmkcbbamfkafmaaLo
namespace Go.Proofs.Ytmkcbbamfkafmaa.P
open Go.RowKit Go.Proofs.Ytmkcbbamfkafmaa Go.Proofs.YtmkcbbamfkafmaaW.PrintWords Go.Proofs.YtmkcbbamfkafmaaW.PrintLast Go.Proofs.YtmkcbbamfkafmaaW.PrintMore
set_option linter.unusedVariables false
set_option linter.unusedSimpArgs false
attribute [local go_sem ↓] addS
section
variable (lo hi : Nat) (hlo : lo ≤ 4294967295) (hhi : hi ≤ 4294967295) (w : World)
include hlo hhi
set_option maxHeartbeats 4000000 in
theorem bounds_two : Calls Try.prog 7 #[.int .u32 (lo : Int), .int .u32 (hi : Int), .bool false] w fun e w' => e = .returned (.bool true) ∧ Below w.heap.size w w' := by
  have d1 := fun W => digits_any lo (by omega) W
  have d2 := fun W => digits_any hi (by omega) W
  have hp := parse_two lo hi hlo hhi
  have wl : IntKind.u64.wrap (lo : Int) = (lo : Int) := by rw [IntKind.wrap_u64]; omega
  have wh : IntKind.u64.wrap (hi : Int) = (hi : Int) := by rw [IntKind.wrap_u64]; omega
  have vl : IntKind.i64.wrap (lo : Int) = (lo : Int) := by rw [IntKind.wrap_i64]; omega
  have vh : IntKind.i64.wrap (hi : Int) = (hi : Int) := by rw [IntKind.wrap_i64]; omega
  have l1 := digL_le lo (by omega)
  have l2 := digL_le hi (by omega)
  have hD0 : (tx (digL lo)).size ≤ 11 := by rw [tx_size]; exact l1
  have a1 : ∀ W, (AddS ⟨#[97, 123]⟩ (tx (digL lo))).run Try.prog W = .ok (.string (tx ([97, 123] ++ digL lo))) W := fun W => adds_run W [97, 123] _ (by simp; omega)
  have a2 : ∀ W, (AddS (tx ([97, 123] ++ digL lo)) ⟨#[44]⟩).run Try.prog W = .ok (.string (tx ([97, 123] ++ digL lo ++ [44]))) W := fun W => adds_run W _ [44] (by simp; omega)
  have a3 : ∀ W, (AddS (tx ([97, 123] ++ digL lo ++ [44])) (tx (digL hi))).run Try.prog W = .ok (.string (tx ([97, 123] ++ digL lo ++ [44] ++ digL hi))) W := fun W => adds_run W _ _ (by simp; omega)
  have a4 : ∀ W, (AddS (tx ([97, 123] ++ digL lo ++ [44] ++ digL hi)) ⟨#[125]⟩).run Try.prog W = .ok (.string (tx (twoL lo hi))) W := fun W => adds_run W _ [125] (by simp; omega)
  obtain ⟨D, hD⟩ : ∃ D, D = tx (digL lo) := ⟨_, rfl⟩
  obtain ⟨E, hE⟩ : ∃ E, E = tx (digL hi) := ⟨_, rfl⟩
  obtain ⟨u1, hu1⟩ : ∃ u1, u1 = tx ([97, 123] ++ digL lo) := ⟨_, rfl⟩
  obtain ⟨u2, hu2⟩ : ∃ u2, u2 = tx ([97, 123] ++ digL lo ++ [44]) := ⟨_, rfl⟩
  obtain ⟨u3, hu3⟩ : ∃ u3, u3 = tx ([97, 123] ++ digL lo ++ [44] ++ digL hi) := ⟨_, rfl⟩
  obtain ⟨s, hs⟩ : ∃ s, s = tx (twoL lo hi) := ⟨_, rfl⟩
  rw [← hD, ← hu1] at a1
  rw [← hu1, ← hu2] at a2
  rw [← hu2, ← hE, ← hu3] at a3
  rw [← hu3, ← hs] at a4
  rw [← hs, ← hD] at hp
  rw [← hD] at hD0
  simp only [← hD] at d1
  simp only [← hE] at d2
  have w3 : IntKind.i64.wrap (3 + (D.size : Int)) = 3 + (D.size : Int) := by rw [IntKind.wrap_i64]; omega
  have HP := Lib.hid hp
  clear hD hE hu1 hu2 hu3 hs hp l1 l2
  go_enter Try.func7, Try.ntmps7
  go_wp2_with fail
  refine (d1 _).mono ?_
  rintro x w1 ⟨rfl, hb1⟩
  go_wp2_with fail
  refine (d2 _).mono ?_
  rintro x w2 ⟨rfl, hb2⟩
  have hbw := ext_trans hb1 hb2
  clear hb1 hb2 d2
  go_wp2_with fail
  refine (parse_q s w2).mono ?_
  rintro x w3 ⟨tk, t0, t1, t2, t3, tps, tlo, thi, At, ct, tpl, te, rfl, hq, hT, hb3⟩
  have hbw3 := (ext_trans hbw hb3).alloc (ext_trans hbw hb3).size (.cells #[.int .i64 tk, .int .u64 t0, .int .u64 t1, .int .u64 t2, .int .u64 t3, .slice At tps.length ct, .int .i64 tlo, .int .i64 thi] 28)
  have hq0 := hq.out.symm.trans HP.out
  clear hbw hb3 hT HP
  go_wp2_with fail
  refine (awake_any _).mono ?_
  rintro x w4 ⟨rfl, hb4⟩
  have hbw4 := ext_trans hbw3 hb4
  have hblk : w4.heap[w3.heap.size]? = some (.cells #[.int .i64 tk, .int .u64 t0, .int .u64 t1, .int .u64 t2, .int .u64 t3, .slice At tps.length ct, .int .i64 tlo, .int .i64 thi] 28) := (hb4.block _ (by simp)).trans (heap_alloc_new w3 _)
  obtain ⟨c0, c1, c2, c3, c4, c5, c6, c7⟩ := n_cells hblk
  clear hbw3 hb4 hblk
  by_cases k1 : lo > 2147483647
  · rw [if_pos k1] at hq0
    injection hq0 with _ hpl he
    subst hpl he
    have kz : (lo : Int) > 2147483647 := by omega
    go_wp2
    go_ret
    exact ⟨rfl, hbw4⟩
  rw [if_neg k1] at hq0
  have kz : ¬ (lo : Int) > 2147483647 := by omega
  by_cases k2 : hi > 2147483647
  · rw [if_pos k2] at hq0
    injection hq0 with _ hpl he
    have hpz : (tpl == 3 + (D.size : Int)) = true := by simp [hpl]
    subst he
    have kz2 : (hi : Int) > 2147483647 := by omega
    clear hpl
    go_wp2_with fail
    refine (d1 _).mono ?_
    rintro x w5 ⟨rfl, hb5⟩
    have hbw5 := ext_trans hbw4 hb5
    clear d1 hbw4 hb5 c0 c1 c2 c3 c4 c5 c6 c7
    go_wp2
    go_ret
    exact ⟨rfl, hbw5⟩
  rw [if_neg k2] at hq0
  have kz2 : ¬ (hi : Int) > 2147483647 := by omega
  clear d1
  by_cases k3 : lo > hi
  · rw [if_pos k3] at hq0
    injection hq0 with _ hpl he
    subst hpl he
    have kz3 : (lo : Int) > (hi : Int) := by omega
    go_wp2
    go_ret
    exact ⟨rfl, hbw4⟩
  rw [if_neg k3] at hq0
  have kz3 : ¬ (lo : Int) > (hi : Int) := by omega
  unfold aT timN at hq0
  injection hq0 with ht _ he
  injection ht with h0 h1 h2 h3 h4
  subst he h0
  have hl : (tlo == (lo : Int)) = true := by simp [h3]
  have hh : (thi == (hi : Int)) = true := by simp [h4]
  clear h1 h2 h3 h4
  go_wp2
  go_ret
  exact ⟨rfl, hbw4⟩
omit hhi in
set_option maxHeartbeats 4000000 in
theorem bounds_one : Calls Try.prog 7 #[.int .u32 (lo : Int), .int .u32 (hi : Int), .bool true] w fun e w' => e = .returned (.bool true) ∧ Below w.heap.size w w' := by
  have d1 := fun W => digits_any lo (by omega) W
  have hp := parse_one lo hlo
  have wl : IntKind.u64.wrap (lo : Int) = (lo : Int) := by rw [IntKind.wrap_u64]; omega
  have vl : IntKind.i64.wrap (lo : Int) = (lo : Int) := by rw [IntKind.wrap_i64]; omega
  have l1 := digL_le lo (by omega)
  have a1 : ∀ W, (AddS ⟨#[97, 123]⟩ (tx (digL lo))).run Try.prog W = .ok (.string (tx ([97, 123] ++ digL lo))) W := fun W => adds_run W [97, 123] _ (by simp; omega)
  have a2 : ∀ W, (AddS (tx ([97, 123] ++ digL lo)) ⟨#[44]⟩).run Try.prog W = .ok (.string (tx ([97, 123] ++ digL lo ++ [44]))) W := fun W => adds_run W _ [44] (by simp; omega)
  have a4 : ∀ W, (AddS (tx ([97, 123] ++ digL lo ++ [44])) ⟨#[125]⟩).run Try.prog W = .ok (.string (tx (oneL lo))) W := fun W => adds_run W _ [125] (by simp; omega)
  obtain ⟨D, hD⟩ : ∃ D, D = tx (digL lo) := ⟨_, rfl⟩
  obtain ⟨u1, hu1⟩ : ∃ u1, u1 = tx ([97, 123] ++ digL lo) := ⟨_, rfl⟩
  obtain ⟨u2, hu2⟩ : ∃ u2, u2 = tx ([97, 123] ++ digL lo ++ [44]) := ⟨_, rfl⟩
  obtain ⟨s, hs⟩ : ∃ s, s = tx (oneL lo) := ⟨_, rfl⟩
  rw [← hD, ← hu1] at a1
  rw [← hu1, ← hu2] at a2
  rw [← hu2, ← hs] at a4
  rw [← hs] at hp
  simp only [← hD] at d1
  have HP := Lib.hid hp
  clear hD hu1 hu2 hs hp l1
  go_enter Try.func7, Try.ntmps7
  go_wp2_with fail
  refine (d1 _).mono ?_
  rintro x w1 ⟨rfl, hb1⟩
  clear d1
  go_wp2_with fail
  refine (parse_q s w1).mono ?_
  rintro x w3 ⟨tk, t0, t1, t2, t3, tps, tlo, thi, At, ct, tpl, te, rfl, hq, hT, hb3⟩
  have hbw3 := (ext_trans hb1 hb3).alloc (ext_trans hb1 hb3).size (.cells #[.int .i64 tk, .int .u64 t0, .int .u64 t1, .int .u64 t2, .int .u64 t3, .slice At tps.length ct, .int .i64 tlo, .int .i64 thi] 28)
  have hq0 := hq.out.symm.trans HP.out
  clear hb1 hb3 hT HP
  go_wp2_with fail
  refine (awake_any _).mono ?_
  rintro x w4 ⟨rfl, hb4⟩
  have hbw4 := ext_trans hbw3 hb4
  have hblk : w4.heap[w3.heap.size]? = some (.cells #[.int .i64 tk, .int .u64 t0, .int .u64 t1, .int .u64 t2, .int .u64 t3, .slice At tps.length ct, .int .i64 tlo, .int .i64 thi] 28) := (hb4.block _ (by simp)).trans (heap_alloc_new w3 _)
  obtain ⟨c0, c1, c2, c3, c4, c5, c6, c7⟩ := n_cells hblk
  clear hbw3 hb4 hblk
  by_cases k1 : lo > 2147483647
  · rw [if_pos k1] at hq0
    injection hq0 with _ hpl he
    subst hpl he
    have kz : (lo : Int) > 2147483647 := by omega
    go_wp2
    go_ret
    exact ⟨rfl, hbw4⟩
  rw [if_neg k1] at hq0
  have kz : ¬ (lo : Int) > 2147483647 := by omega
  unfold aT timN at hq0
  injection hq0 with ht _ he
  injection ht with h0 h1 h2 h3 h4
  subst he h0 h4
  have hl : (tlo == (lo : Int)) = true := by simp [h3]
  clear h1 h2 h3
  go_wp2
  go_ret
  exact ⟨rfl, hbw4⟩
end
theorem bounds_any (lo hi : Nat) (hlo : lo ≤ 4294967295) (hhi : hi ≤ 4294967295) (b : Bool) (w : World) : Calls Try.prog 7 #[.int .u32 (lo : Int), .int .u32 (hi : Int), .bool b] w fun e w' => e = .returned (.bool true) ∧ Below w.heap.size w w' := by
  cases b
  · exact bounds_two lo hi hlo hhi w
  · exact bounds_one lo hi hlo w
theorem wf_u32 {n : Int} (h : (Lit.int .u32 n).wf = true) : ∃ k : Nat, n = (k : Int) ∧ k ≤ 4294967295 := by
  simp [Lit.wf, IntKind.min, IntKind.max, IntKind.signed, IntKind.bits] at h
  exact ⟨n.toNat, by omega, by omega⟩
end Go.Proofs.Ytmkcbbamfkafmaa.P
