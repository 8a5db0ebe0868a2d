/- Plain facts on classes of bytes: four words of 64 bits. -/
import Derived.WalkKit
namespace Go.Proofs.YthknfjiggdkcaaaDoor
open Go.RowKit

def U64 : Int := 18446744073709551616
/-- Four words of 64 bits. -/
def W64 (x : Nat → Int) : Prop := ∀ j, j < 4 → 0 ≤ x j ∧ x j < U64
/-- Is byte b in the class? -/
def hasB (x : Nat → Int) (b : Nat) : Bool := (x (b / 64)).toNat.testBit (b % 64)

theorem u64_lt {n : Int} (h : n < U64) : n < 18446744073709551616 := h

theorem word_ext {a b : Int} (ha : 0 ≤ a) (ha' : a < U64) (hb : 0 ≤ b) (hb' : b < U64) (h : ∀ k, k < 64 → a.toNat.testBit k = b.toNat.testBit k) : a = b := by
  have e : a.toNat = b.toNat := by
    apply Nat.eq_of_testBit_eq
    intro k
    by_cases hk : k < 64
    · exact h k hk
    · have e64 : U64 = ((2 ^ 64 : Nat) : Int) := by unfold U64; rfl
      have hp : (2 : Nat) ^ 64 ≤ 2 ^ k := Nat.pow_le_pow_right (by decide) (by omega)
      have h1 : a.toNat < 2 ^ k := by rw [e64] at ha'; omega
      have h2 : b.toNat < 2 ^ k := by rw [e64] at hb'; omega
      rw [Nat.testBit_lt_two_pow h1, Nat.testBit_lt_two_pow h2]
  omega

theorem cls_ext {x y : Nat → Int} (hx : W64 x) (hy : W64 y) (h : ∀ b, b < 256 → hasB x b = hasB y b) (j : Nat) (hj : j < 4) : x j = y j := by
  refine word_ext (hx j hj).1 (hx j hj).2 (hy j hj).1 (hy j hj).2 fun k hk => ?_
  have := h (64 * j + k) (by omega)
  unfold hasB at this
  rwa [show (64 * j + k) / 64 = j by omega, show (64 * j + k) % 64 = k by omega] at this

theorem toNat_div_pow (a : Int) (ha : 0 ≤ a) (k : Nat) : (a / 2 ^ k).toNat = a.toNat / 2 ^ k := by
  obtain ⟨n, rfl⟩ := Int.eq_ofNat_of_zero_le ha
  have : ((n : Int) / 2 ^ k) = ((n / 2 ^ k : Nat) : Int) := by simp
  rw [this]; rfl

/-- The walk's spelling of 'c[b>>6]>>(b&63)&1 == 1'. -/
theorem bit_spelt {a : Int} (ha : 0 ≤ a) (ha' : a < U64) (k : Nat) : (bits .and .u64 (a / 2 ^ k) 1 == 1) = a.toNat.testBit k := by
  have h1 : 0 ≤ a / 2 ^ k := Int.ediv_nonneg ha (Int.le_of_lt (Int.pow_pos (by decide)))
  have h2 : a / 2 ^ k ≤ a := Int.ediv_le_self _ ha
  rw [u64_and _ _ h1 (by have := u64_lt ha'; omega) (by decide) (by decide), toNat_div_pow a ha k]
  rw [show (1 : Int).toNat = 1 from rfl, nat_mask1, Nat.testBit_eq_decide_div_mod_eq]
  have h01 : a.toNat / 2 ^ k % 2 = 0 ∨ a.toNat / 2 ^ k % 2 = 1 := by omega
  rcases h01 with h | h <;> simp [h]

theorem two_pow_lt (k : Nat) (hk : k < 64) : (2 : Int) ^ k < U64 ∧ 0 ≤ (2 : Int) ^ k := by
  have h : (2 : Nat) ^ k < 2 ^ 64 := Nat.pow_lt_pow_right (by decide) hk
  have e : ((2 : Int) ^ k) = ((2 ^ k : Nat) : Int) := by simp
  rw [e]
  generalize 2 ^ k = n at h
  unfold U64
  omega

/-- A word with a bit more. -/
theorem or_bit {a : Int} (ha : 0 ≤ a) (ha' : a < U64) (k : Nat) (hk : k < 64) :
    bits .or .u64 a (2 ^ k) = ((a.toNat ||| 2 ^ k : Nat) : Int) ∧ 0 ≤ bits .or .u64 a (2 ^ k) ∧ bits .or .u64 a (2 ^ k) < U64 ∧
      ∀ q, (bits .or .u64 a (2 ^ k)).toNat.testBit q = (a.toNat.testBit q || decide (k = q)) := by
  have hp := two_pow_lt k hk
  have e : bits .or .u64 a (2 ^ k) = ((a.toNat ||| 2 ^ k : Nat) : Int) := by
    rw [u64_or _ _ ha (u64_lt ha') hp.2 (u64_lt hp.1), toNat_two_pow]
  have hlt : a.toNat ||| 2 ^ k < 2 ^ 64 := Nat.or_lt_two_pow (by have := u64_lt ha'; omega) (Nat.pow_lt_pow_right (by decide) hk)
  refine ⟨e, by rw [e]; omega, by rw [e]; unfold U64; omega, fun q => ?_⟩
  rw [e, Int.toNat_natCast, Nat.testBit_or, Nat.testBit_two_pow]

/-- Is b between the two? -/
def inR (lo hi : Int) (b : Nat) : Bool := decide (lo ≤ b ∧ (b : Int) ≤ hi)
theorem and63 {k : Int} (h0 : 0 ≤ k) (h1 : k < 256) : bits .and .i64 k 63 = k % 64 :=
  bits_mask .i64 31 (by decide) (fun n a b => by rw [IntKind.wrap_i64]; have h : (2 : Int) ^ 31 = 2147483648 := by decide
                                                 rw [h] at b; omega) 6 (by decide) k h0 (by have h : (2 : Int) ^ 31 = 2147483648 := by decide
                                                                                            rw [h]; omega)
def setW (x : Nat → Int) (i : Nat) (v : Int) : Nat → Int := fun j => if j = i then v else x j

/-- The walk's spelling of 'c[b>>6] |= 1 << (b & 63)'. -/
theorem or_step {x : Nat → Int} (hx : W64 x) {b : Int} (h0 : 0 ≤ b) (h1 : b < 256) :
    W64 (setW x (b / 64).toNat (bits .or .u64 (x (b / 64).toNat) (IntKind.u64.wrap (2 ^ (b % 64).toNat)))) ∧
      ∀ q : Nat, q < 256 → hasB (setW x (b / 64).toNat (bits .or .u64 (x (b / 64).toNat) (IntKind.u64.wrap (2 ^ (b % 64).toNat)))) q = (hasB x q || decide ((q : Int) = b)) := by
  have hi : (b / 64).toNat < 4 := by omega
  have hk : (b % 64).toNat < 64 := by omega
  have hp := two_pow_lt _ hk
  have ew : IntKind.u64.wrap ((2 : Int) ^ (b % 64).toNat) = 2 ^ (b % 64).toNat := by
    rw [IntKind.wrap_u64]
    exact Int.emod_eq_of_lt hp.2 (u64_lt hp.1)
  rw [ew]
  obtain ⟨_, h2, h3, h4⟩ := or_bit (hx _ hi).1 (hx _ hi).2 _ hk
  refine ⟨fun j hj => ?_, fun q hq => ?_⟩
  · unfold setW
    split
    · exact ⟨h2, h3⟩
    · exact hx j hj
  · unfold hasB setW
    by_cases e : q / 64 = (b / 64).toNat
    · rw [if_pos e, h4, e]
      congr 1
      apply decide_eq_decide.2
      omega
    · rw [if_neg e, show decide ((q : Int) = b) = false from decide_eq_false (by omega), Bool.or_false]

/-- The walk's spelling of '^c[i]'. -/
def notw (a : Int) : Int := bits .xor .u64 (if IntKind.u64.signed = true then -1 else IntKind.u64.max) a
theorem notw_eq (a : Int) : bits .xor .u64 (if IntKind.u64.signed = true then -1 else IntKind.u64.max) a = notw a := rfl
theorem notw_nat {a : Int} (h0 : 0 ≤ a) (h1 : a < U64) : notw a = ((2 ^ 64 - 1 ^^^ a.toNat : Nat) : Int) := by
  have e : (if IntKind.u64.signed = true then -1 else IntKind.u64.max) = (18446744073709551615 : Int) := by decide
  unfold notw
  rw [e, u64_xor _ _ (by decide) (by decide) h0 (u64_lt h1)]
  rfl
theorem notw_range {a : Int} (h0 : 0 ≤ a) (h1 : a < U64) : 0 ≤ notw a ∧ notw a < U64 := by
  rw [notw_nat h0 h1]
  have : 2 ^ 64 - 1 ^^^ a.toNat < 2 ^ 64 := Nat.xor_lt_two_pow (by decide) (by have := u64_lt h1; omega)
  refine ⟨by omega, ?_⟩
  unfold U64
  omega
theorem notw_bit {a : Int} (h0 : 0 ≤ a) (h1 : a < U64) {k : Nat} (hk : k < 64) : (notw a).toNat.testBit k = !a.toNat.testBit k := by
  rw [notw_nat h0 h1, Int.toNat_natCast, Nat.testBit_xor, Nat.testBit_two_pow_sub_one]
  simp [hk]
theorem not_cls {x : Nat → Int} (hx : W64 x) : W64 (fun j => notw (x j)) ∧ ∀ b : Nat, b < 256 → hasB (fun j => notw (x j)) b = !hasB x b :=
  ⟨fun j hj => notw_range (hx j hj).1 (hx j hj).2, fun b hb => notw_bit (hx _ (by omega)).1 (hx _ (by omega)).2 (by omega)⟩

def andw (a b : Int) : Int := bits .and .u64 a b
def orw (a b : Int) : Int := bits .or .u64 a b
theorem and_cls {x y : Nat → Int} (hx : W64 x) (hy : W64 y) : W64 (fun j => andw (x j) (y j)) ∧ ∀ b : Nat, b < 256 → hasB (fun j => andw (x j) (y j)) b = (hasB x b && hasB y b) := by
  have e : ∀ j, j < 4 → andw (x j) (y j) = (((x j).toNat &&& (y j).toNat : Nat) : Int) := fun j hj => by
    unfold andw
    exact u64_and _ _ (hx j hj).1 (u64_lt (hx j hj).2) (hy j hj).1 (u64_lt (hy j hj).2)
  refine ⟨fun j hj => ?_, fun b hb => ?_⟩
  · show 0 ≤ andw (x j) (y j) ∧ andw (x j) (y j) < U64
    rw [e j hj]
    have : (x j).toNat &&& (y j).toNat ≤ (x j).toNat := Nat.and_le_left
    have := hx j hj
    omega
  · show (andw (x (b / 64)) (y (b / 64))).toNat.testBit (b % 64) = _
    rw [e _ (by omega), Int.toNat_natCast, Nat.testBit_and]
    rfl
theorem or_cls {x y : Nat → Int} (hx : W64 x) (hy : W64 y) : W64 (fun j => orw (x j) (y j)) ∧ ∀ b : Nat, b < 256 → hasB (fun j => orw (x j) (y j)) b = (hasB x b || hasB y b) := by
  have e : ∀ j, j < 4 → orw (x j) (y j) = (((x j).toNat ||| (y j).toNat : Nat) : Int) := fun j hj => by
    unfold orw
    exact u64_or _ _ (hx j hj).1 (u64_lt (hx j hj).2) (hy j hj).1 (u64_lt (hy j hj).2)
  refine ⟨fun j hj => ?_, fun b hb => ?_⟩
  · show 0 ≤ orw (x j) (y j) ∧ orw (x j) (y j) < U64
    rw [e j hj]
    have h1 := u64_lt (hx j hj).2
    have h2 := u64_lt (hy j hj).2
    have : (x j).toNat ||| (y j).toNat < 2 ^ 64 := Nat.or_lt_two_pow (by omega) (by omega)
    refine ⟨by omega, ?_⟩
    unfold U64
    omega
  · show (orw (x (b / 64)) (y (b / 64))).toNat.testBit (b % 64) = _
    rw [e _ (by omega), Int.toNat_natCast, Nat.testBit_or]
    rfl

theorem div_pow_range {a : Int} (h0 : 0 ≤ a) (h1 : a < U64) (k : Nat) : 0 ≤ a / 2 ^ k ∧ a / 2 ^ k < U64 :=
  ⟨Int.ediv_nonneg h0 (Int.le_of_lt (Int.pow_pos (by decide))), Int.lt_of_le_of_lt (Int.ediv_le_self _ h0) h1⟩
theorem half_step {a : Int} (h0 : 0 ≤ a) (h1 : a < U64) (k : Nat) : IntKind.u64.wrap ((a / 2 ^ k).tdiv 2) = a / 2 ^ (k + 1) := by
  obtain ⟨p, q⟩ := div_pow_range h0 h1 k
  have q := u64_lt q
  rw [Int.pow_succ, ← Int.ediv_ediv_of_nonneg (Int.le_of_lt (Int.pow_pos (by decide)))]
  generalize a / 2 ^ k = m at p q
  rw [Int.tdiv_eq_ediv_of_nonneg p, IntKind.wrap_u64]
  omega
theorem odd_spelt {a : Int} (h0 : 0 ≤ a) (h1 : a < U64) (k : Nat) : ((a / 2 ^ k).tmod 2 == 1) = a.toNat.testBit k := by
  rw [Nat.testBit_eq_decide_div_mod_eq, ← toNat_div_pow a h0 k]
  obtain ⟨p, q⟩ := div_pow_range h0 h1 k
  generalize a / 2 ^ k = m at p q
  rw [Int.tmod_eq_emod_of_nonneg p, Bool.eq_iff_iff, beq_iff_eq, decide_eq_true_iff]
  omega
theorem double_step (k : Nat) (hk : k + 1 < 64) : IntKind.u64.wrap ((2 : Int) ^ k * 2) = 2 ^ (k + 1) := by
  rw [← Int.pow_succ, IntKind.wrap_u64]
  have := two_pow_lt (k + 1) hk
  exact Int.emod_eq_of_lt this.2 (u64_lt this.1)
/-- A bit that isn't there is put by a sum. -/
theorem add_bit {a : Int} (h0 : 0 ≤ a) (h1 : a < U64) (k : Nat) (hk : k < 64) (hb : a.toNat.testBit k = false) : IntKind.u64.wrap (a + 2 ^ k) = bits .or .u64 a (2 ^ k) := by
  obtain ⟨e, h2, h3, h4⟩ := or_bit h0 h1 k hk
  have hs : a.toNat ||| 2 ^ k = a.toNat + 2 ^ k := by
    have hand : a.toNat &&& 2 ^ k = 0 := by
      apply Nat.eq_of_testBit_eq
      intro i
      rw [Nat.testBit_and, Nat.testBit_two_pow, Nat.zero_testBit]
      by_cases hi : k = i
      · subst hi; simp [hb]
      · simp [hi]
    have ha : a.toNat < 2 ^ 64 := by have := u64_lt h1; omega
    have hk2 : 2 ^ k < 2 ^ 64 := Nat.pow_lt_pow_right (by decide) hk
    have hbv := BitVec.add_eq_or_of_and_eq_zero (BitVec.ofNat 65 a.toNat) (BitVec.ofNat 65 (2 ^ k)) (by
      apply BitVec.eq_of_toNat_eq
      rw [BitVec.toNat_and, BitVec.toNat_ofNat, BitVec.toNat_ofNat, Nat.mod_eq_of_lt (Nat.lt_of_lt_of_le ha (by decide)), Nat.mod_eq_of_lt (Nat.lt_of_lt_of_le hk2 (by decide)), hand]
      rfl)
    have h65 := congrArg BitVec.toNat hbv
    rw [BitVec.toNat_add, BitVec.toNat_or, BitVec.toNat_ofNat, BitVec.toNat_ofNat, Nat.mod_eq_of_lt (Nat.lt_of_lt_of_le ha (by decide)), Nat.mod_eq_of_lt (Nat.lt_of_lt_of_le hk2 (by decide))] at h65
    rw [← h65]
    generalize 2 ^ k = n at hk2
    omega
  have e2 : a + 2 ^ k = ((a.toNat ||| 2 ^ k : Nat) : Int) := by
    rw [hs]
    have : ((2 : Int) ^ k) = ((2 ^ k : Nat) : Int) := by simp
    rw [this]
    omega
  rw [e2, ← e, IntKind.wrap_u64]
  exact Int.emod_eq_of_lt h2 (u64_lt h3)

theorem put_step {x : Nat → Int} (hx : W64 x) {b : Int} (h0 : 0 ≤ b) (h1 : b < 256) {k : Nat} (hk : (k : Int) = b % 64) (hB : hasB x b.toNat = false) :
    W64 (setW x (b / 64).toNat (IntKind.u64.wrap (x (b / 64).toNat + 2 ^ k))) ∧
      ∀ q : Nat, q < 256 → hasB (setW x (b / 64).toNat (IntKind.u64.wrap (x (b / 64).toNat + 2 ^ k))) q = (hasB x q || decide ((q : Int) = b)) := by
  have hw := hx (b / 64).toNat (by omega)
  have ek : (b % 64).toNat = k := by omega
  have hbit : (x (b / 64).toNat).toNat.testBit k = false := by
    unfold hasB at hB
    rwa [show b.toNat / 64 = (b / 64).toNat by omega, show b.toNat % 64 = k by omega] at hB
  have hp := two_pow_lt k (by omega)
  have ew : IntKind.u64.wrap ((2 : Int) ^ k) = 2 ^ k := by
    rw [IntKind.wrap_u64]
    exact Int.emod_eq_of_lt hp.2 (u64_lt hp.1)
  have := or_step hx h0 h1
  rw [ek, ew] at this
  rw [add_bit hw.1 hw.2 k (by omega) hbit]
  exact this

/-- The words of the class of those bytes that f tells. -/
def cwn (f : Nat → Bool) (j : Nat) : Nat → Nat
  | 0 => 0
  | n + 1 => cwn f j n + (if f (64 * j + n) then 2 ^ n else 0)
theorem cwn_lt (f : Nat → Bool) (j : Nat) : ∀ n, cwn f j n < 2 ^ n
  | 0 => by simp [cwn]
  | n + 1 => by
    have := cwn_lt f j n
    rw [cwn, Nat.pow_succ]
    split <;> omega
theorem cwn_bit (f : Nat → Bool) (j : Nat) : ∀ n k, k < n → (cwn f j n).testBit k = f (64 * j + k)
  | 0, k, h => by omega
  | n + 1, k, h => by
    have hl := cwn_lt f j n
    rw [cwn]
    by_cases e : k = n
    · subst e
      split
      · rename_i hf
        rw [Nat.add_comm, Nat.testBit_two_pow_add_eq, Nat.testBit_lt_two_pow hl, hf]
        rfl
      · rename_i hf
        rw [Nat.add_zero, Nat.testBit_lt_two_pow hl]
        simpa using hf
    · have hk : k < n := by omega
      split
      · rw [Nat.add_comm, Nat.testBit_two_pow_add_gt hk, cwn_bit f j n k hk]
      · rw [Nat.add_zero, cwn_bit f j n k hk]
def clsOf (f : Nat → Bool) (j : Nat) : Int := (cwn f j 64 : Nat)
theorem w64_clsOf (f : Nat → Bool) : W64 (clsOf f) := fun j _ => by
  have := cwn_lt f j 64
  unfold clsOf U64
  omega
theorem has_clsOf (f : Nat → Bool) (b : Nat) : hasB (clsOf f) b = f b := by
  unfold hasB clsOf
  rw [Int.toNat_natCast, cwn_bit f _ 64 _ (by omega), show 64 * (b / 64) + b % 64 = b by omega]
theorem clsOf_eq {x : Nat → Int} (hx : W64 x) {f : Nat → Bool} (h : ∀ b, b < 256 → hasB x b = f b) (j : Nat) (hj : j < 4) : x j = clsOf f j :=
  cls_ext hx (w64_clsOf f) (fun b hb => by rw [has_clsOf, h b hb]) j hj
theorem cwn_congr {f g : Nat → Bool} (j : Nat) : ∀ n, (∀ k, k < n → f (64 * j + k) = g (64 * j + k)) → cwn f j n = cwn g j n
  | 0, _ => rfl
  | n + 1, h => by rw [cwn, cwn, cwn_congr j n (fun k hk => h k (by omega)), h n (by omega)]
theorem clsOf_congr {f g : Nat → Bool} (h : ∀ b, b < 256 → f b = g b) (j : Nat) (hj : j < 4) : clsOf f j = clsOf g j := by
  unfold clsOf
  rw [cwn_congr j 64 (fun k hk => h _ (by omega))]
def memB (l : List Int) (b : Nat) : Bool := decide ((b : Int) ∈ l)
end Go.Proofs.YthknfjiggdkcaaaDoor
