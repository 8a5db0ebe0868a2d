/- How many bits a word has: plain facts on bits.OnesCount64's text. -/
import Derived.Test.YthknfjiggdkcaaaDoorCls0
namespace Go.Proofs.YthknfjiggdkcaaaDoor
open Go.RowKit

/-- How many numbers below n does f tell. -/
def cnt (f : Nat → Bool) : Nat → Nat
  | 0 => 0
  | n + 1 => cnt f n + (if f n then 1 else 0)
theorem cnt_congr {f g : Nat → Bool} : ∀ n, (∀ i, i < n → f i = g i) → cnt f n = cnt g n
  | 0, _ => rfl
  | n + 1, h => by
    rw [cnt, cnt, cnt_congr n (fun i hi => h i (by omega)), h n (by omega)]
theorem cnt_le (f : Nat → Bool) : ∀ n, cnt f n ≤ n
  | 0 => Nat.le_refl _
  | n + 1 => by
    have := cnt_le f n
    rw [cnt]
    split <;> omega
theorem cnt_add (f : Nat → Bool) (m : Nat) : ∀ n, cnt f (m + n) = cnt f m + cnt (fun i => f (m + i)) n
  | 0 => rfl
  | n + 1 => by rw [← Nat.add_assoc, cnt, cnt, cnt_add f m n, Nat.add_assoc]

/-- Eight bytes. -/
def N8 (f : Nat → Nat) : Nat := f 0 + 256 * (f 1 + 256 * (f 2 + 256 * (f 3 + 256 * (f 4 + 256 * (f 5 + 256 * (f 6 + 256 * f 7))))))
theorem and_split (a b c d : Nat) (ha : a < 256) (hc : c < 256) : (a + 256 * b) &&& (c + 256 * d) = (a &&& c) + 256 * (b &&& d) := by
  apply Nat.eq_of_testBit_eq
  intro i
  have hac : a &&& c < 2 ^ 8 := Nat.and_lt_two_pow _ (by omega)
  rw [Nat.testBit_and, Nat.add_comm a, Nat.add_comm c, Nat.add_comm (a &&& c), show (256 : Nat) = 2 ^ 8 from rfl,
    Nat.testBit_two_pow_mul_add _ (by omega), Nat.testBit_two_pow_mul_add _ (by omega), Nat.testBit_two_pow_mul_add _ hac]
  split <;> rw [Nat.testBit_and]
theorem and_N8 (f g : Nat → Nat) (hf : ∀ i, f i < 256) (hg : ∀ i, g i < 256) : N8 f &&& N8 g = N8 (fun i => f i &&& g i) := by
  unfold N8
  rw [and_split _ _ _ _ (hf 0) (hg 0), and_split _ _ _ _ (hf 1) (hg 1), and_split _ _ _ _ (hf 2) (hg 2), and_split _ _ _ _ (hf 3) (hg 3), and_split _ _ _ _ (hf 4) (hg 4), and_split _ _ _ _ (hf 5) (hg 5), and_split _ _ _ _ (hf 6) (hg 6)]
theorem N8_lt (f : Nat → Nat) (hf : ∀ i, f i < 256) : N8 f < 18446744073709551616 := by
  unfold N8
  have := hf 0; have := hf 1; have := hf 2; have := hf 3; have := hf 4; have := hf 5; have := hf 6; have := hf 7
  omega
theorem N8_of (n : Nat) (h : n < 18446744073709551616) : n = N8 (fun i => n / 256 ^ i % 256) := by
  unfold N8
  simp only [Nat.pow_zero, Nat.div_one, show (256 : Nat) ^ 1 = 256 from rfl, show (256 : Nat) ^ 2 = 65536 from rfl, show (256 : Nat) ^ 3 = 16777216 from rfl, show (256 : Nat) ^ 4 = 4294967296 from rfl,
    show (256 : Nat) ^ 5 = 1099511627776 from rfl, show (256 : Nat) ^ 6 = 281474976710656 from rfl, show (256 : Nat) ^ 7 = 72057594037927936 from rfl]
  omega
/-- The bytes, a bit (two, four) further down. -/
def up (f : Nat → Nat) (i : Nat) : Nat := if i < 7 then f (i + 1) else 0
theorem half_N8 (f : Nat → Nat) : N8 f / 2 = N8 (fun i => f i / 2 + 128 * (up f i % 2)) := by
  unfold N8 up
  simp only [show (7 : Nat) < 7 ↔ False by decide, show (0 : Nat) < 7 by decide, show (1 : Nat) < 7 by decide, show (2 : Nat) < 7 by decide, show (3 : Nat) < 7 by decide, show (4 : Nat) < 7 by decide, show (5 : Nat) < 7 by decide, show (6 : Nat) < 7 by decide, if_true, if_false, Nat.reduceAdd]
  omega
theorem quart_N8 (f : Nat → Nat) : N8 f / 4 = N8 (fun i => f i / 4 + 64 * (up f i % 4)) := by
  unfold N8 up
  simp only [show (7 : Nat) < 7 ↔ False by decide, show (0 : Nat) < 7 by decide, show (1 : Nat) < 7 by decide, show (2 : Nat) < 7 by decide, show (3 : Nat) < 7 by decide, show (4 : Nat) < 7 by decide, show (5 : Nat) < 7 by decide, show (6 : Nat) < 7 by decide, if_true, if_false, Nat.reduceAdd]
  omega
theorem six_N8 (f : Nat → Nat) : N8 f / 16 = N8 (fun i => f i / 16 + 16 * (up f i % 16)) := by
  unfold N8 up
  simp only [show (7 : Nat) < 7 ↔ False by decide, show (0 : Nat) < 7 by decide, show (1 : Nat) < 7 by decide, show (2 : Nat) < 7 by decide, show (3 : Nat) < 7 by decide, show (4 : Nat) < 7 by decide, show (5 : Nat) < 7 by decide, show (6 : Nat) < 7 by decide, if_true, if_false, Nat.reduceAdd]
  omega
theorem add_N8 (f g : Nat → Nat) : N8 f + N8 g = N8 (fun i => f i + g i) := by
  unfold N8
  simp only []
  omega
theorem N8_congr {f g : Nat → Nat} (h : ∀ i, f i = g i) : N8 f = N8 g := by rw [show f = g from funext h]

def p1 (b : Nat) : Nat := (b / 2 &&& 85) + (b &&& 85)
def p2 (b : Nat) : Nat := (b / 4 &&& 51) + (b &&& 51)
def p3 (b : Nat) : Nat := (b / 16 + b) &&& 15
theorem p1_top : ∀ b, b < 256 → ∀ u, u < 2 → (b / 2 + 128 * u) < 256 ∧ (b / 2 + 128 * u) &&& 85 = b / 2 &&& 85 := by decide +kernel
theorem p2_top : ∀ b, b < 256 → ∀ u, u < 4 → (b / 4 + 64 * u) < 256 ∧ (b / 4 + 64 * u) &&& 51 = b / 4 &&& 51 := by decide +kernel
theorem p1_lt : ∀ b, b < 256 → p1 b < 256 := by decide +kernel
theorem p2_lt : ∀ b, b < 256 → p2 (p1 b) < 256 ∧ p2 (p1 b) % 16 ≤ 4 ∧ p2 (p1 b) / 16 ≤ 4 := by decide +kernel
theorem p3_top : ∀ b, b < 256 → ∀ u, u < 5 → b % 16 ≤ 4 → b / 16 ≤ 4 → (b / 16 + 16 * u + b) < 256 ∧ (b / 16 + 16 * u + b) &&& 15 = p3 b := by decide +kernel
theorem pop_byte : ∀ b, b < 256 → p3 (p2 (p1 b)) = cnt b.testBit 8 := by decide +kernel

def M5 : Int := 6148914691236517205
def M3 : Int := 3689348814741910323
def M0f : Int := 1085102592571150095
def os1 (a : Int) : Int := IntKind.u64.wrap (bits .and .u64 (a / 2) 6148914691236517205 + bits .and .u64 a 6148914691236517205)
def os2 (y : Int) : Int := IntKind.u64.wrap (bits .and .u64 (y / 4) 3689348814741910323 + bits .and .u64 y 3689348814741910323)
def os3 (y : Int) : Int := bits .and .u64 (IntKind.u64.wrap (y / 16 + y)) 1085102592571150095
def os4 (y : Int) : Int := IntKind.u64.wrap (y + y / 256)
def os5 (y : Int) : Int := IntKind.u64.wrap (y + y / 65536)
def os6 (y : Int) : Int := IntKind.u64.wrap (y + y / 4294967296)
def os7 (y : Int) : Int := bits .and .i64 (wrap64 y) 127

theorem wrap_nat {n : Nat} (h : n < 18446744073709551616) : IntKind.u64.wrap (n : Int) = n := by
  rw [IntKind.wrap_u64]
  omega
theorem m5 : (6148914691236517205 : Nat) = N8 (fun _ => 85) := by decide
theorem m3 : (3689348814741910323 : Nat) = N8 (fun _ => 51) := by decide
theorem m0f : (1085102592571150095 : Nat) = N8 (fun _ => 15) := by decide

theorem up_lt {f : Nat → Nat} (hf : ∀ i, f i < 256) (i : Nat) : up f i < 256 := by
  unfold up
  split
  · exact hf _
  · omega
theorem os1_N8 (f : Nat → Nat) (hf : ∀ i, f i < 256) : os1 (N8 f : Nat) = (N8 (fun i => p1 (f i)) : Nat) := by
  have h1 := fun i => p1_top (f i) (hf i) (up f i % 2) (by omega)
  have hl := N8_lt f hf
  have e : ((N8 f : Nat) : Int) / 2 = ((N8 f / 2 : Nat) : Int) := by simp
  have em : (6148914691236517205 : Int) = ((N8 (fun _ => 85) : Nat) : Int) := by rw [← m5]; rfl
  unfold os1
  rw [em, e, half_N8, u64_and_nat _ _ (N8_lt _ (fun i => (h1 i).1)) (N8_lt _ (fun _ => by decide)), u64_and_nat _ _ hl (N8_lt _ (fun _ => by decide)),
    and_N8 _ _ (fun i => (h1 i).1) (fun _ => by decide), and_N8 _ _ hf (fun _ => by decide), ← Int.natCast_add, add_N8]
  have e2 : N8 (fun i => (f i / 2 + 128 * (up f i % 2) &&& 85) + (f i &&& 85)) = N8 (fun i => p1 (f i)) := N8_congr fun i => by rw [(h1 i).2]; rfl
  rw [e2, wrap_nat (N8_lt _ (fun i => p1_lt _ (hf i)))]
theorem os2_N8 (f : Nat → Nat) (hf : ∀ i, f i < 256) (hp : ∀ i, p2 (f i) < 256) : os2 (N8 f : Nat) = (N8 (fun i => p2 (f i)) : Nat) := by
  have h1 := fun i => p2_top (f i) (hf i) (up f i % 4) (by omega)
  have hl := N8_lt f hf
  have e : ((N8 f : Nat) : Int) / 4 = ((N8 f / 4 : Nat) : Int) := by simp
  have em : (3689348814741910323 : Int) = ((N8 (fun _ => 51) : Nat) : Int) := by rw [← m3]; rfl
  unfold os2
  rw [em, e, quart_N8, u64_and_nat _ _ (N8_lt _ (fun i => (h1 i).1)) (N8_lt _ (fun _ => by decide)), u64_and_nat _ _ hl (N8_lt _ (fun _ => by decide)),
    and_N8 _ _ (fun i => (h1 i).1) (fun _ => by decide), and_N8 _ _ hf (fun _ => by decide), ← Int.natCast_add, add_N8]
  have e2 : N8 (fun i => (f i / 4 + 64 * (up f i % 4) &&& 51) + (f i &&& 51)) = N8 (fun i => p2 (f i)) := N8_congr fun i => by rw [(h1 i).2]; rfl
  rw [e2, wrap_nat (N8_lt _ hp)]
theorem os3_N8 (f : Nat → Nat) (hf : ∀ i, f i < 256) (h4 : ∀ i, f i % 16 ≤ 4 ∧ f i / 16 ≤ 4) : os3 (N8 f : Nat) = (N8 (fun i => p3 (f i)) : Nat) := by
  have hu : ∀ i, up f i % 16 < 5 := fun i => by
    unfold up
    split
    · have := (h4 (i + 1)).1; omega
    · omega
  have h1 := fun i => p3_top (f i) (hf i) (up f i % 16) (hu i) (h4 i).1 (h4 i).2
  have e : ((N8 f : Nat) : Int) / 16 + ((N8 f : Nat) : Int) = ((N8 f / 16 + N8 f : Nat) : Int) := by simp
  have em : (1085102592571150095 : Int) = ((N8 (fun _ => 15) : Nat) : Int) := by rw [← m0f]; rfl
  unfold os3
  rw [em, e, six_N8, add_N8, wrap_nat (N8_lt _ (fun i => (h1 i).1)), u64_and_nat _ _ (N8_lt _ (fun i => (h1 i).1)) (N8_lt _ (fun _ => by decide)), and_N8 _ _ (fun i => (h1 i).1) (fun _ => by decide)]
  rw [N8_congr fun i => (h1 i).2]
theorem os_step (K L H : Nat) (hL : L < K) (hs : L + K * H + H < 18446744073709551616) : IntKind.u64.wrap (((L + K * H : Nat) : Int) + ((L + K * H : Nat) : Int) / (K : Int)) = ((L + K * H + H : Nat) : Int) := by
  have e : ((L + K * H : Nat) : Int) / (K : Int) = ((H : Nat) : Int) := by
    rw [← Int.natCast_ediv, Nat.add_mul_div_left _ _ (by omega), Nat.div_eq_of_lt hL, Nat.zero_add]
  rw [e, ← Int.natCast_add, wrap_nat hs]
theorem os7_low (s m : Nat) (hs : s < 128) (hm : m < 36028797018963968) : os7 ((s + 256 * m : Nat) : Int) = s := by
  unfold os7
  have ew : wrap64 ((s + 256 * m : Nat) : Int) = ((s + 256 * m : Nat) : Int) := by
    unfold wrap64
    omega
  have e63 : (2 : Int) ^ 63 = 9223372036854775808 := by decide
  have := bits_mask .i64 63 (by decide) (fun n a b => by rw [e63] at b; rw [IntKind.wrap_i64]; omega) 7 (by decide) ((s + 256 * m : Nat) : Int) (by omega) (by rw [e63]; omega)
  rw [ew, show (127 : Int) = 2 ^ 7 - 1 by decide, this, show (2 : Int) ^ 7 = 128 by decide]
  omega
theorem os_sum (f : Nat → Nat) (hf : ∀ i, f i ≤ 8) : os7 (os6 (os5 (os4 (N8 f : Nat)))) = (f 0 + f 1 + f 2 + f 3 + f 4 + f 5 + f 6 + f 7 : Nat) := by
  have q0 := hf 0; have q1 := hf 1; have q2 := hf 2; have q3 := hf 3; have q4 := hf 4; have q5 := hf 5; have q6 := hf 6; have q7 := hf 7
  unfold N8
  generalize f 0 = a0 at *; generalize f 1 = a1 at *; generalize f 2 = a2 at *; generalize f 3 = a3 at *; generalize f 4 = a4 at *; generalize f 5 = a5 at *; generalize f 6 = a6 at *; generalize f 7 = a7 at *
  clear hf
  have s4 := os_step 256 a0 (a1 + 256 * (a2 + 256 * (a3 + 256 * (a4 + 256 * (a5 + 256 * (a6 + 256 * a7)))))) (by omega) (by omega)
  have s4' : os4 ((a0 + 256 * (a1 + 256 * (a2 + 256 * (a3 + 256 * (a4 + 256 * (a5 + 256 * (a6 + 256 * a7)))))) : Nat) : Int) = _ := s4
  clear s4
  rw [s4', show a0 + 256 * (a1 + 256 * (a2 + 256 * (a3 + 256 * (a4 + 256 * (a5 + 256 * (a6 + 256 * a7)))))) + (a1 + 256 * (a2 + 256 * (a3 + 256 * (a4 + 256 * (a5 + 256 * (a6 + 256 * a7)))))) =
    ((a0 + a1) + 256 * (a1 + a2)) + 65536 * ((a2 + a3) + 256 * ((a3 + a4) + 256 * ((a4 + a5) + 256 * ((a5 + a6) + 256 * ((a6 + a7) + 256 * a7))))) by omega]
  clear s4'
  have s5 := os_step 65536 ((a0 + a1) + 256 * (a1 + a2)) ((a2 + a3) + 256 * ((a3 + a4) + 256 * ((a4 + a5) + 256 * ((a5 + a6) + 256 * ((a6 + a7) + 256 * a7))))) (by omega) (by omega)
  have s5' : os5 (((a0 + a1) + 256 * (a1 + a2) + 65536 * ((a2 + a3) + 256 * ((a3 + a4) + 256 * ((a4 + a5) + 256 * ((a5 + a6) + 256 * ((a6 + a7) + 256 * a7))))) : Nat) : Int) = _ := s5
  clear s5
  rw [s5', show (a0 + a1) + 256 * (a1 + a2) + 65536 * ((a2 + a3) + 256 * ((a3 + a4) + 256 * ((a4 + a5) + 256 * ((a5 + a6) + 256 * ((a6 + a7) + 256 * a7))))) + ((a2 + a3) + 256 * ((a3 + a4) + 256 * ((a4 + a5) + 256 * ((a5 + a6) + 256 * ((a6 + a7) + 256 * a7))))) =
    ((a0 + a1 + a2 + a3) + 256 * ((a1 + a2 + a3 + a4) + 256 * ((a2 + a3 + a4 + a5) + 256 * (a3 + a4 + a5 + a6)))) + 4294967296 * ((a4 + a5 + a6 + a7) + 256 * ((a5 + a6 + a7) + 256 * ((a6 + a7) + 256 * a7))) by omega]
  clear s5'
  have s6 := os_step 4294967296 ((a0 + a1 + a2 + a3) + 256 * ((a1 + a2 + a3 + a4) + 256 * ((a2 + a3 + a4 + a5) + 256 * (a3 + a4 + a5 + a6)))) ((a4 + a5 + a6 + a7) + 256 * ((a5 + a6 + a7) + 256 * ((a6 + a7) + 256 * a7))) (by omega) (by omega)
  have s6' : os6 (((a0 + a1 + a2 + a3) + 256 * ((a1 + a2 + a3 + a4) + 256 * ((a2 + a3 + a4 + a5) + 256 * (a3 + a4 + a5 + a6))) + 4294967296 * ((a4 + a5 + a6 + a7) + 256 * ((a5 + a6 + a7) + 256 * ((a6 + a7) + 256 * a7))) : Nat) : Int) = _ := s6
  clear s6
  obtain ⟨m, hm, em⟩ : ∃ m : Nat, m < 36028797018963968 ∧ (a0 + a1 + a2 + a3) + 256 * ((a1 + a2 + a3 + a4) + 256 * ((a2 + a3 + a4 + a5) + 256 * (a3 + a4 + a5 + a6))) + 4294967296 * ((a4 + a5 + a6 + a7) + 256 * ((a5 + a6 + a7) + 256 * ((a6 + a7) + 256 * a7))) +
      ((a4 + a5 + a6 + a7) + 256 * ((a5 + a6 + a7) + 256 * ((a6 + a7) + 256 * a7))) = (a0 + a1 + a2 + a3 + a4 + a5 + a6 + a7) + 256 * m :=
    ⟨((a1 + a2 + a3 + a4) + 256 * ((a2 + a3 + a4 + a5) + 256 * (a3 + a4 + a5 + a6))) + 16777216 * ((a4 + a5 + a6 + a7) + 256 * ((a5 + a6 + a7) + 256 * ((a6 + a7) + 256 * a7))) + ((a5 + a6 + a7) + 256 * ((a6 + a7) + 256 * a7)), by omega, by omega⟩
  rw [s6', em]
  exact os7_low _ m (by omega) hm

theorem byte_bit (n i : Nat) (j : Nat) (hj : j < 8) : (n / 256 ^ i % 256).testBit j = n.testBit (8 * i + j) := by
  rw [show (256 : Nat) ^ i = 2 ^ (8 * i) by rw [Nat.pow_mul], show (256 : Nat) = 2 ^ 8 from rfl, Nat.testBit_mod_two_pow, Nat.testBit_div_two_pow]
  simp [hj, Nat.add_comm]
/-- What bits.OnesCount64's text comes to: how many bits there are. -/
theorem ones_spelt {a : Int} (h0 : 0 ≤ a) (h1 : a < U64) : os7 (os6 (os5 (os4 (os3 (os2 (os1 a)))))) = (cnt a.toNat.testBit 64 : Nat) := by
  obtain ⟨n, rfl⟩ := Int.eq_ofNat_of_zero_le h0
  have hn : n < 18446744073709551616 := by have := u64_lt h1; omega
  rw [Int.toNat_natCast]
  have hf : ∀ i, (fun i => n / 256 ^ i % 256) i < 256 := fun i => Nat.mod_lt _ (by decide)
  have h2 := fun i => p2_lt _ (hf i)
  have h8 : ∀ i, p3 (p2 (p1 (n / 256 ^ i % 256))) = cnt (fun j => n.testBit (8 * i + j)) 8 := fun i => by
    rw [pop_byte _ (hf i)]
    exact cnt_congr 8 fun j hj => byte_bit n i j hj
  have key : os7 (os6 (os5 (os4 (os3 (os2 (os1 ((N8 (fun i => n / 256 ^ i % 256) : Nat) : Int))))))) = (cnt n.testBit 64 : Nat) := by
    rw [os1_N8 _ hf, os2_N8 _ (fun i => p1_lt _ (hf i)) (fun i => (h2 i).1), os3_N8 _ (fun i => (h2 i).1) (fun i => (h2 i).2)]
    rw [N8_congr h8, os_sum _ (fun i => cnt_le _ 8)]
    rw [show (64 : Nat) = 8 + 8 + 8 + 8 + 8 + 8 + 8 + 8 from rfl, cnt_add, cnt_add, cnt_add, cnt_add, cnt_add, cnt_add, cnt_add]
    have : cnt (fun j => n.testBit (8 * 0 + j)) 8 = cnt n.testBit 8 := cnt_congr 8 fun j _ => by rw [Nat.mul_zero, Nat.zero_add]
    rw [this]
  rw [N8_of n hn]
  exact key.trans (by rw [← N8_of n hn])

/-- How many bytes a class has. -/
def sizeC (x : Nat → Int) : Nat := cnt (hasB x) 256
def wordN (x : Nat → Int) (k : Nat) : Nat := cnt (hasB x) (64 * k)
theorem wordN_succ (x : Nat → Int) (k : Nat) : wordN x (k + 1) = wordN x k + cnt (x k).toNat.testBit 64 := by
  unfold wordN
  rw [Nat.mul_add, Nat.mul_one, cnt_add]
  congr 1
  apply cnt_congr
  intro i hi
  unfold hasB
  rw [show (64 * k + i) / 64 = k by omega, show (64 * k + i) % 64 = i by omega]
theorem wordN_le (x : Nat → Int) (k : Nat) : wordN x k ≤ 64 * k := cnt_le _ _

theorem cnt_and_or (f g : Nat → Bool) : ∀ n, cnt f n + cnt g n = cnt (fun i => f i && g i) n + cnt (fun i => f i || g i) n
  | 0 => rfl
  | n + 1 => by
    have := cnt_and_or f g n
    rw [cnt, cnt, cnt, cnt]
    cases f n <;> cases g n <;> simp <;> omega
theorem not_and {a b : Int} (h0 : 0 ≤ a) (h1 : a < U64) (h2 : 0 ≤ b) (h3 : b < U64) : notw (andw a b) = orw (notw a) (notw b) := by
  have hx : W64 (fun _ => a) := fun _ _ => ⟨h0, h1⟩
  have hy : W64 (fun _ => b) := fun _ _ => ⟨h2, h3⟩
  obtain ⟨p1, p2⟩ := and_cls hx hy
  obtain ⟨q1, q2⟩ := or_cls (not_cls hx).1 (not_cls hy).1
  have ha := p1 0 (by omega)
  have hn := notw_range ha.1 ha.2
  have ho := q1 0 (by omega)
  refine word_ext hn.1 hn.2 ho.1 ho.2 fun k hk => ?_
  have e1 : (andw a b).toNat.testBit k = (a.toNat.testBit k && b.toNat.testBit k) := by
    have := p2 k (by omega)
    unfold hasB at this
    rwa [show k % 64 = k by omega] at this
  have e2 : (orw (notw a) (notw b)).toNat.testBit k = ((notw a).toNat.testBit k || (notw b).toNat.testBit k) := by
    have := q2 k (by omega)
    unfold hasB at this
    rwa [show k % 64 = k by omega] at this
  rw [notw_bit ha.1 ha.2 hk, e2, notw_bit h0 h1 hk, notw_bit h2 h3 hk, e1, Bool.not_and]
theorem not_not {a : Int} (h0 : 0 ≤ a) (h1 : a < U64) : notw (notw a) = a := by
  obtain ⟨p, q⟩ := notw_range h0 h1
  obtain ⟨p2, q2⟩ := notw_range p q
  refine word_ext p2 q2 h0 h1 fun k hk => ?_
  rw [notw_bit p q hk, notw_bit h0 h1 hk, Bool.not_not]
/-- Four words as a class. -/
def fn4 (a0 a1 a2 a3 : Int) : Nat → Int
  | 0 => a0
  | 1 => a1
  | 2 => a2
  | _ => a3
theorem w64_fn4 {a0 a1 a2 a3 : Int} (h0 : 0 ≤ a0 ∧ a0 < U64) (h1 : 0 ≤ a1 ∧ a1 < U64) (h2 : 0 ≤ a2 ∧ a2 < U64) (h3 : 0 ≤ a3 ∧ a3 < U64) : W64 (fn4 a0 a1 a2 a3) := fun j hj => by
  match j, hj with
  | 0, _ => exact h0
  | 1, _ => exact h1
  | 2, _ => exact h2
  | 3, _ => exact h3
def size4 (a0 a1 a2 a3 : Int) : Nat := sizeC (fn4 a0 a1 a2 a3)
theorem size4_le (a0 a1 a2 a3 : Int) : size4 a0 a1 a2 a3 ≤ 256 := cnt_le _ _
theorem sizeC_congr {x y : Nat → Int} (h : ∀ j, j < 4 → x j = y j) : sizeC x = sizeC y := by
  unfold sizeC
  refine cnt_congr 256 fun i hi => ?_
  unfold hasB
  rw [h _ (by omega)]
theorem size_sum {x y : Nat → Int} (hx : W64 x) (hy : W64 y) :
    size4 (x 0) (x 1) (x 2) (x 3) + size4 (y 0) (y 1) (y 2) (y 3) = size4 (andw (x 0) (y 0)) (andw (x 1) (y 1)) (andw (x 2) (y 2)) (andw (x 3) (y 3)) + size4 (orw (x 0) (y 0)) (orw (x 1) (y 1)) (orw (x 2) (y 2)) (orw (x 3) (y 3)) := by
  have e : ∀ z : Nat → Int, size4 (z 0) (z 1) (z 2) (z 3) = sizeC z := fun z => sizeC_congr fun j hj => by
    match j, hj with
    | 0, _ => rfl
    | 1, _ => rfl
    | 2, _ => rfl
    | 3, _ => rfl
  rw [e x, e y, e (fun j => andw (x j) (y j)), e (fun j => orw (x j) (y j))]
  unfold sizeC
  rw [cnt_congr 256 (and_cls hx hy).2, cnt_congr 256 (or_cls hx hy).2]
  exact cnt_and_or _ _ 256
end Go.Proofs.YthknfjiggdkcaaaDoor
