/- Layer 1, behind the door: the least byte; what a table of the library holds. -/
import Derived.Test.YthknfjiggdkcaaaDoorClsW
import Derived.Deep.RegionHeld3
namespace Go.Proofs.YthknfjiggdkcaaaDoor
open Go.RowKit
set_option linter.unusedVariables false
set_option linter.unusedSimpArgs false

theorem size_range37 : sizeC (clsOf (inR 3 9)) = 7 := by
  unfold sizeC
  rw [cnt_congr 256 (fun i _ => has_clsOf (inR 3 9) i)]
  decide +kernel
theorem awake_any (w : World) : Calls Tryd.prog 13 #[] w fun e w' => e = .returned (.bool true) ∧ Below w.heap.size w w' := by
  go_enter Tryd.func13, Tryd.ntmps13
  go_wp2_with fail
  refine (range_v 3 9 (by omega) (by omega) (by omega) (by omega) _).mono ?_
  rintro e w1 ⟨rfl, hb1⟩
  go_wp2_with fail
  refine (size_any (clsOf (inR 3 9)) (w64_clsOf _) _).mono ?_
  rintro e w2 ⟨he, hb2⟩
  rw [size_range37] at he
  subst he
  go_wp2_with fail
  refine (of_v [200] (some ⟨w2.heap.size, 0, none⟩) 1 _ ?_ ?_).mono ?_
  · exact rdI_new w2 .u8 200 5
  · intro b hb
    obtain rfl : b = 200 := by simpa using hb
    omega
  rintro e w3 ⟨rfl, hb3⟩
  go_wp2_with fail
  refine (has_any (clsOf (memB [200])) (w64_clsOf _) 200 (by omega) (by omega) _).mono ?_
  rintro e w4 ⟨he, hb4⟩
  rw [has_clsOf] at he
  have hm : memB [200] (200 : Int).toNat = true := by decide
  rw [hm] at he
  subst he
  go_wp2
  go_ret
  exact ⟨rfl, ext_trans (ext_trans (ext_alloc (ext_trans hb1 hb2) _) hb3) hb4⟩

/-! #### the least bit of a word -/
def lowB (n : Nat) : Nat → Nat → Nat
  | 0, k => k
  | m + 1, k => if n.testBit k then k else lowB n m (k + 1)
theorem lowB_spec (n : Nat) : ∀ m k, (∃ j, k ≤ j ∧ j < k + m ∧ n.testBit j = true) → k ≤ lowB n m k ∧ lowB n m k < k + m ∧ n.testBit (lowB n m k) = true ∧ ∀ i, k ≤ i → i < lowB n m k → n.testBit i = false
  | 0, k, ⟨j, h1, h2, _⟩ => by omega
  | m + 1, k, ⟨j, h1, h2, h3⟩ => by
    rw [lowB]
    by_cases hk : n.testBit k = true
    · rw [if_pos hk]; exact ⟨by omega, by omega, hk, fun i h h' => by omega⟩
    · rw [if_neg hk]
      have hj : j ≠ k := by rintro rfl; exact hk h3
      obtain ⟨a, b, c, d⟩ := lowB_spec n m (k + 1) ⟨j, by omega, by omega, h3⟩
      refine ⟨by omega, by omega, c, fun i h h' => ?_⟩
      by_cases e : i = k
      · subst e; simpa using hk
      · exact d i (by omega) h'
theorem and_neg {n k : Nat} (hn : n < 2 ^ 64) (hk : n.testBit k = true) (hl : ∀ i, i < k → n.testBit i = false) : n &&& (2 ^ 64 - n) = 2 ^ k := by
  have hmod : n % 2 ^ (k + 1) = 2 ^ k := by
    apply Nat.eq_of_testBit_eq
    intro i
    rw [Nat.testBit_mod_two_pow, Nat.testBit_two_pow]
    by_cases h : i < k
    · rw [hl i h, decide_eq_false (show ¬ k = i by omega)]; simp
    · by_cases e : i = k
      · subst e; simp [hk]
      · rw [decide_eq_false (show ¬ i < k + 1 by omega), decide_eq_false (show ¬ k = i by omega)]; rfl
  have hdm := Nat.div_add_mod n (2 ^ (k + 1))
  rw [hmod] at hdm
  have hp : 0 < 2 ^ k := Nat.two_pow_pos k
  have hlt : 2 ^ k - 1 < 2 ^ (k + 1) := by rw [Nat.pow_succ]; omega
  have hlt2 : 2 ^ k < 2 ^ (k + 1) := by rw [Nat.pow_succ]; omega
  have e1 : n = 2 ^ (k + 1) * (n / 2 ^ (k + 1)) + 2 ^ k := hdm.symm
  have e2 : n - 1 = 2 ^ (k + 1) * (n / 2 ^ (k + 1)) + (2 ^ k - 1) := by omega
  have e3 : 2 ^ 64 - n = 2 ^ 64 - ((n - 1) + 1) := by omega
  apply Nat.eq_of_testBit_eq
  intro i
  rw [Nat.testBit_and, e3, Nat.testBit_two_pow_sub_succ (by omega), Nat.testBit_two_pow]
  by_cases h : i < k
  · rw [hl i h, decide_eq_false (show ¬ k = i by omega)]; rfl
  · by_cases e : i = k
    · subst e
      have h2 : (n - 1).testBit i = false := by
        rw [e2, Nat.testBit_two_pow_mul_add _ hlt, if_pos (by omega)]
        exact Nat.testBit_lt_two_pow (by omega)
      have h3 : i < 64 := by
        rcases Nat.lt_or_ge i 64 with h | h
        · exact h
        · have := Nat.testBit_lt_two_pow (Nat.lt_of_lt_of_le hn (Nat.pow_le_pow_right (by decide) h))
          rw [this] at hk; cases hk
      simp [hk, h2, h3]
    · have h2 : (n - 1).testBit i = n.testBit i := by
        have a1 : (n - 1).testBit i = (n / 2 ^ (k + 1)).testBit (i - (k + 1)) := by rw [e2, Nat.testBit_two_pow_mul_add _ hlt, if_neg (by omega)]
        have a2 : (2 ^ (k + 1) * (n / 2 ^ (k + 1)) + 2 ^ k).testBit i = (n / 2 ^ (k + 1)).testBit (i - (k + 1)) := by rw [Nat.testBit_two_pow_mul_add _ hlt2, if_neg (by omega)]
        rw [a1, ← a2, ← e1]
      rw [h2, decide_eq_false (show ¬ k = i by omega)]
      cases n.testBit i <;> simp
def tabL : List Int := [0, 1, 56, 2, 57, 49, 28, 3, 61, 58, 42, 50, 38, 29, 17, 4, 62, 47, 59, 36, 45, 43, 51, 22, 53, 39, 33, 30, 24, 18, 12, 5, 63, 55, 48, 27, 60, 41, 37, 16, 46, 35, 44, 21, 52, 32, 23, 11, 54, 26, 40, 15, 34, 20, 31, 10, 25, 14, 19, 9, 13, 8, 7, 6]
theorem tab_at : ∀ k : Fin 64, tabL.getD ((2 ^ k.1 * 285870213051353865 % 18446744073709551616) / 288230376151711744) 0 = (k.1 : Int) := by decide +kernel
def Tab (w : World) : Prop := ∀ j, j < 64 → w.cell? ⟨1, j, none⟩ = some (.int .u8 (tabL.getD j 0))
theorem Tab.below {w w' : World} (h : Tab w) (hb : Below w.heap.size w w') : Tab w' := fun j hj => (hb.cell (World.block_lt_of_cell? w _ (h j hj))).trans (h j hj)
theorem neg_spelt {a : Int} (h0 : 0 < a) (h1 : a < U64) : IntKind.u64.wrap (-a) = ((2 ^ 64 - a.toNat : Nat) : Int) := by
  rw [IntKind.wrap_u64]
  have := u64_lt h1
  have e : (2 : Nat) ^ 64 = 18446744073709551616 := by decide
  rw [e]
  omega
theorem tz_index {a : Int} (h0 : 0 < a) (h1 : a < U64) : bits .and .u64 a (IntKind.u64.wrap (-a)) = ((2 ^ lowB a.toNat 64 0 : Nat) : Int) ∧ lowB a.toNat 64 0 < 64 ∧ a.toNat.testBit (lowB a.toNat 64 0) = true ∧ ∀ i, i < lowB a.toNat 64 0 → a.toNat.testBit i = false := by
  have h := u64_lt h1
  have e64 : (2 : Nat) ^ 64 = 18446744073709551616 := by decide
  have hn : a.toNat < 2 ^ 64 := by rw [e64]; omega
  have hex : ∃ j, 0 ≤ j ∧ j < 0 + 64 ∧ a.toNat.testBit j = true := by
    obtain ⟨j, hj⟩ := Nat.exists_testBit_of_ne_zero (x := a.toNat) (by omega)
    refine ⟨j, by omega, ?_, hj⟩
    rcases Nat.lt_or_ge j 64 with h | h
    · omega
    · have := Nat.testBit_lt_two_pow (Nat.lt_of_lt_of_le hn (Nat.pow_le_pow_right (by decide) h))
      rw [this] at hj; cases hj
  obtain ⟨_, b, c, d⟩ := lowB_spec a.toNat 64 0 hex
  have hs := neg_spelt h0 h1
  refine ⟨?_, by omega, c, fun i hi => d i (by omega) hi⟩
  rw [hs, u64_and _ _ (by omega) (by omega) (by omega) (by rw [e64]; omega), Int.toNat_natCast, and_neg hn c (fun i hi => d i (by omega) hi)]
theorem tz_mul (k : Nat) : IntKind.u64.wrap (((2 ^ k : Nat) : Int) * 285870213051353865) / 288230376151711744 = (((2 ^ k * 285870213051353865 % 18446744073709551616) / 288230376151711744 : Nat) : Int) := by
  rw [IntKind.wrap_u64]
  generalize 2 ^ k = p
  omega
theorem tab_k {k : Nat} (hk : k < 64) : tabL.getD ((2 ^ k * 285870213051353865 % 18446744073709551616) / 288230376151711744) 0 = (k : Int) := tab_at ⟨k, hk⟩
theorem tz_core {k : Nat} (hk : k < 64) {w : World} (hT : Tab w) : ∃ q : Nat, IntKind.u64.wrap (((2 ^ k : Nat) : Int) * 285870213051353865) / 288230376151711744 = (q : Int) ∧ q < 64 ∧ w.cell? ⟨1, q, none⟩ = some (.int .u8 k) := by
  have hlt : ∀ p : Nat, (p * 285870213051353865 % 18446744073709551616) / 288230376151711744 < 64 := by intro p; omega
  have hc := hT _ (hlt (2 ^ k))
  rw [tab_k hk] at hc
  exact ⟨_, tz_mul k, hlt _, hc⟩
theorem tz_walk (a : Int) (k : Nat) (p : Nat) (q : Nat) (hz : ¬ a = 0) (w : World) (hi : bits .and .u64 a (IntKind.u64.wrap (-a)) = (p : Int)) (hm : IntKind.u64.wrap ((p : Int) * 285870213051353865) / 288230376151711744 = (q : Int)) (hlt : q < 64) (hk : k < 64) (hc : w.cell? ⟨1, q, none⟩ = some (.int .u8 k)) :
    Calls Tryd.prog 18 #[.int .u64 a] w fun e w' => e = .returned (.int .i64 k) ∧ w = w' := by
  have hz2 : (a == 0) = false := by simp [hz]
  have hk2 : (k : Int) < 64 := by omega
  go_enter Tryd.func18, Tryd.ntmps18
  go_wp2
  go_ret
  exact ⟨rfl, rfl⟩
theorem tz_any (a : Int) (h0 : 0 ≤ a) (h1 : a < U64) (hz : ¬ a = 0) (w : World) (hT : Tab w) :
    Calls Tryd.prog 18 #[.int .u64 a] w fun e w' => e = .returned (.int .i64 (lowB a.toNat 64 0 : Nat)) ∧ w = w' := by
  obtain ⟨hi, hk, _, _⟩ := tz_index (a := a) (by omega) h1
  obtain ⟨q, hm, hq, hc⟩ := tz_core hk hT
  exact tz_walk a _ _ q hz w hi hm hq hk hc

/-! #### the least byte -/
theorem cnt_zero {f : Nat → Bool} : ∀ n, (∀ i, i < n → f i = false) → cnt f n = 0
  | 0, _ => rfl
  | n + 1, h => by rw [cnt, cnt_zero n (fun i hi => h i (by omega)), h n (by omega)]; rfl
theorem cnt_none {f : Nat → Bool} : ∀ n, cnt f n = 0 → ∀ i, i < n → f i = false
  | 0, _, i, hi => by omega
  | n + 1, h, i, hi => by
    rw [cnt] at h
    cases hf : f n with
    | true => rw [hf] at h; simp at h
    | false =>
      rw [hf] at h
      by_cases e : i = n
      · subst e; exact hf
      · exact cnt_none n (by simpa using h) i (by omega)
theorem word_zero {x : Nat → Int} (hx : W64 x) {j : Nat} (hj : j < 4) (h : ∀ k, k < 64 → hasB x (64 * j + k) = false) : x j = 0 := by
  refine word_ext (hx j hj).1 (hx j hj).2 (Int.le_refl _) (by unfold U64; omega) fun k hk => ?_
  have := h k hk
  unfold hasB at this
  rw [show (64 * j + k) / 64 = j by omega, show (64 * j + k) % 64 = k by omega] at this
  rw [this]; simp
theorem word_some {x : Nat → Int} {b : Nat} (h : hasB x b = true) : ¬ x (b / 64) = 0 := by
  intro e
  unfold hasB at h
  rw [e] at h
  simp at h
theorem low_at {x : Nat → Int} (hx : W64 x) {b : Nat} (hb : b < 256) (h : hasB x b = true) (hl : ∀ q, q < b → hasB x q = false) : lowB (x (b / 64)).toNat 64 0 = b % 64 := by
  have hz := word_some h
  obtain ⟨_, h2, h3, h4⟩ := tz_index (a := x (b / 64)) (by have := (hx (b / 64) (by omega)).1; omega) (hx (b / 64) (by omega)).2
  have ht : (x (b / 64)).toNat.testBit (b % 64) = true := h
  rcases Nat.lt_trichotomy (lowB (x (b / 64)).toNat 64 0) (b % 64) with hlt | heq | hgt
  · have := hl (64 * (b / 64) + lowB (x (b / 64)).toNat 64 0) (by omega)
    unfold hasB at this
    rw [show (64 * (b / 64) + lowB (x (b / 64)).toNat 64 0) / 64 = b / 64 by omega, show (64 * (b / 64) + lowB (x (b / 64)).toNat 64 0) % 64 = lowB (x (b / 64)).toNat 64 0 by omega, h3] at this
    cases this
  · exact heq
  · rw [h4 _ hgt] at ht; cases ht
theorem least_none (x : Nat → Int) (hx : W64 x) (h : ∀ b, b < 256 → hasB x b = false) (w : World) :
    Calls Tryd.prog 12 #[.agg #[.int .u64 (x 0), .int .u64 (x 1), .int .u64 (x 2), .int .u64 (x 3)]] w fun e w' => e = .returned (.tuple #[.int .u8 0, .bool false]) ∧ Below w.heap.size w w' := by
  have z : ∀ j, j < 4 → x j = 0 := fun j hj => word_zero hx hj fun k hk => h _ (by omega)
  rw [z 0 (by omega), z 1 (by omega), z 2 (by omega), z 3 (by omega)]
  have hb0 := ext_new w (.cells #[.int .u64 0, .int .u64 0, .int .u64 0, .int .u64 0] 24)
  clear z h hx
  go_enter Tryd.func12, Tryd.ntmps12
  have ix := index4 (fun _ => 0)
  go_wp2
  go_loopw [7] (fun i wr => ∃ k : Nat, k ≤ 4 ∧ i = .int .i64 k ∧ Below w.heap.size w wr) (fun i _ => 4 - (intOf i).toNat)
  case atStart => exact ⟨0, by omega, rfl, hb0⟩
  case round =>
    obtain ⟨k, hk, rfl, hb⟩ := hrel
    by_cases hlt : k < 4
    · have hi := ix k hlt wr
      have hlz : (k : Int) < 4 := by omega
      go_wp2
      go_roundw
      case rel => exact ⟨k + 1, by omega, by go_num, hb⟩
      case measure => simp [intOf]; omega
    · have hlz : ¬ (k : Int) < 4 := by omega
      go_wp2
      refine bodyPost_ret (results_tmp2 rfl _ _ _) rfl ?_
      exact ⟨rfl, hb⟩
theorem least_some (x : Nat → Int) (hx : W64 x) (b : Nat) (hb : b < 256) (h1 : hasB x b = true) (h2 : ∀ q, q < b → hasB x q = false) (w : World) (hT : Tab w) :
    Calls Tryd.prog 12 #[.agg #[.int .u64 (x 0), .int .u64 (x 1), .int .u64 (x 2), .int .u64 (x 3)]] w fun e w' => e = .returned (.tuple #[.int .u8 b, .bool true]) ∧ Below w.heap.size w w' := by
  have hn := word_some h1
  have hlow := low_at hx hb h1 h2
  have z : ∀ j, j < b / 64 → x j = 0 := fun j hj => word_zero hx (by omega) fun k hk => h2 _ (by omega)
  have hb0 := ext_new w (.cells #[.int .u64 (x 0), .int .u64 (x 1), .int .u64 (x 2), .int .u64 (x 3)] 24)
  have ix := index4 x
  have hw := hx (b / 64) (by omega)
  obtain ⟨m, hm⟩ : ∃ m, m = b / 64 := ⟨_, rfl⟩
  obtain ⟨r, hr⟩ : ∃ r, r = b % 64 := ⟨_, rfl⟩
  have hbm : b = 64 * m + r := by omega
  have hm4 : m < 4 := by omega
  have hr6 : r < 64 := by omega
  rw [← hm] at hn hlow z hw
  rw [← hr] at hlow
  clear hm hr h1 h2 hb hx
  subst hbm
  go_enter Tryd.func12, Tryd.ntmps12
  go_wp2
  go_loopw [7] (fun i wr => ∃ k : Nat, k ≤ m ∧ i = .int .i64 k ∧ Below w.heap.size w wr) (fun i _ => 4 - (intOf i).toNat)
  case atStart => exact ⟨0, by omega, rfl, hb0⟩
  case round =>
    obtain ⟨k, hk, rfl, hbw⟩ := hrel
    by_cases hlt : k < m
    · have hi := ix k (by omega) wr
      rw [z k hlt] at hi
      have hlz : (k : Int) < 4 := by omega
      go_wp2
      go_roundw
      case rel => exact ⟨k + 1, by omega, by go_num, hbw⟩
      case measure => simp [intOf]; omega
    · obtain rfl : k = m := by omega
      have hi := ix k hm4 wr
      have hlz : (k : Int) < 4 := by omega
      have htz := tz_any (x k) hw.1 hw.2 hn wr (hT.below hbw)
      rw [hlow] at htz
      have hne : (x k == 0) = false := by simp [hn]
      have hne2 : (x k != 0) = true := by simp [hn]
      generalize x k = y at *
      clear hlow z ix hw hn hT
      go_wp2_with fail
      refine htz.mono ?_
      rintro e w' ⟨rfl, rfl⟩
      go_wp2
      refine bodyPost_ret (results_tmp2 rfl _ _ _) rfl ?_
      refine ⟨?_, hbw⟩
      show Ending.returned (.tuple #[.int .u8 ((k : Int) * 64 + (r : Int)), .bool true]) = Ending.returned (.tuple #[.int .u8 ((64 * k + r : Nat) : Int), .bool true])
      rw [show (k : Int) * 64 + (r : Int) = ((64 * k + r : Nat) : Int) by omega]
theorem empty_any (x : Nat → Int) (hx : W64 x) (w : World) :
    Calls Tryd.prog 15 #[.agg #[.int .u64 (x 0), .int .u64 (x 1), .int .u64 (x 2), .int .u64 (x 3)]] w fun e w' => e = .returned (.bool (sizeC x == 0)) ∧ Below w.heap.size w w' := by
  have he : (x 0 == 0 && (x 1 == 0 && (x 2 == 0 && x 3 == 0))) = (sizeC x == 0) := by
    rw [Bool.eq_iff_iff]
    simp only [Bool.and_eq_true, beq_iff_eq]
    constructor
    · rintro ⟨h0, h1, h2, h3⟩
      unfold sizeC
      have hz : ∀ b, b < 256 → hasB x b = false := by
        intro b hb
        have : x (b / 64) = 0 := by
          have h : b / 64 = 0 ∨ b / 64 = 1 ∨ b / 64 = 2 ∨ b / 64 = 3 := by omega
          rcases h with h | h | h | h <;> rw [h] <;> assumption
        unfold hasB
        rw [this]
        simp
      exact cnt_zero 256 hz
    · intro h
      have hz := cnt_none 256 h
      have z : ∀ j, j < 4 → x j = 0 := fun j hj => word_zero hx hj fun k hk => hz _ (by omega)
      exact ⟨z 0 (by omega), z 1 (by omega), z 2 (by omega), z 3 (by omega)⟩
  have heq := eqC
  go_enter Tryd.func15, Tryd.ntmps15
  go_wp2
  go_ret
  refine ⟨?_, ext_new w _⟩
  rw [← he]
  rfl
end Go.Proofs.YthknfjiggdkcaaaDoor
