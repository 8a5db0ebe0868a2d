/- Plain facts on classes of bytes: four words of 64 bits. -/
import Derived.WalkKit
import Derived.Test.YtmkcbbamfkafmaaPN
namespace Go.Proofs.Ytmkcbbamfkafmaa
open Go.RowKit

def U64 : Int := 18446744073709551616
/-- Four words of 64 bits. -/
def W64 (x : Nat → Int) : Prop := ∀ j, j < 4 → 0 ≤ x j ∧ x j < U64
/-- Is byte b in the class? -/
def hasB (x : Nat → Int) (b : Nat) : Bool := (x (b / 64)).toNat.testBit (b % 64)

theorem u64_lt {n : Int} (h : n < U64) : n < 18446744073709551616 := h

theorem word_ext {a b : Int} (ha : 0 ≤ a) (ha' : a < U64) (hb : 0 ≤ b) (hb' : b < U64) (h : ∀ k, k < 64 → a.toNat.testBit k = b.toNat.testBit k) : a = b := by
  have e : a.toNat = b.toNat := by
    apply Nat.eq_of_testBit_eq
    intro k
    by_cases hk : k < 64
    · exact h k hk
    · have e64 : U64 = ((2 ^ 64 : Nat) : Int) := by unfold U64; rfl
      have hp : (2 : Nat) ^ 64 ≤ 2 ^ k := Nat.pow_le_pow_right (by decide) (by omega)
      have h1 : a.toNat < 2 ^ k := by rw [e64] at ha'; omega
      have h2 : b.toNat < 2 ^ k := by rw [e64] at hb'; omega
      rw [Nat.testBit_lt_two_pow h1, Nat.testBit_lt_two_pow h2]
  omega

theorem cls_ext {x y : Nat → Int} (hx : W64 x) (hy : W64 y) (h : ∀ b, b < 256 → hasB x b = hasB y b) (j : Nat) (hj : j < 4) : x j = y j := by
  refine word_ext (hx j hj).1 (hx j hj).2 (hy j hj).1 (hy j hj).2 fun k hk => ?_
  have := h (64 * j + k) (by omega)
  unfold hasB at this
  rwa [show (64 * j + k) / 64 = j by omega, show (64 * j + k) % 64 = k by omega] at this

theorem toNat_div_pow (a : Int) (ha : 0 ≤ a) (k : Nat) : (a / 2 ^ k).toNat = a.toNat / 2 ^ k := by
  obtain ⟨n, rfl⟩ := Int.eq_ofNat_of_zero_le ha
  have : ((n : Int) / 2 ^ k) = ((n / 2 ^ k : Nat) : Int) := by simp
  rw [this]; rfl

/-- The walk's spelling of 'c[b>>6]>>(b&63)&1 == 1'. -/
theorem bit_spelt {a : Int} (ha : 0 ≤ a) (ha' : a < U64) (k : Nat) : (bits .and .u64 (a / 2 ^ k) 1 == 1) = a.toNat.testBit k := by
  have h1 : 0 ≤ a / 2 ^ k := Int.ediv_nonneg ha (Int.le_of_lt (Int.pow_pos (by decide)))
  have h2 : a / 2 ^ k ≤ a := Int.ediv_le_self _ ha
  rw [u64_and _ _ h1 (by have := u64_lt ha'; omega) (by decide) (by decide), toNat_div_pow a ha k]
  rw [show (1 : Int).toNat = 1 from rfl, nat_mask1, Nat.testBit_eq_decide_div_mod_eq]
  have h01 : a.toNat / 2 ^ k % 2 = 0 ∨ a.toNat / 2 ^ k % 2 = 1 := by omega
  rcases h01 with h | h <;> simp [h]

theorem two_pow_lt (k : Nat) (hk : k < 64) : (2 : Int) ^ k < U64 ∧ 0 ≤ (2 : Int) ^ k := by
  have h : (2 : Nat) ^ k < 2 ^ 64 := Nat.pow_lt_pow_right (by decide) hk
  have e : ((2 : Int) ^ k) = ((2 ^ k : Nat) : Int) := by simp
  rw [e]
  generalize 2 ^ k = n at h
  unfold U64
  omega

/-- A word with a bit more. -/
theorem or_bit {a : Int} (ha : 0 ≤ a) (ha' : a < U64) (k : Nat) (hk : k < 64) :
    bits .or .u64 a (2 ^ k) = ((a.toNat ||| 2 ^ k : Nat) : Int) ∧ 0 ≤ bits .or .u64 a (2 ^ k) ∧ bits .or .u64 a (2 ^ k) < U64 ∧
      ∀ q, (bits .or .u64 a (2 ^ k)).toNat.testBit q = (a.toNat.testBit q || decide (k = q)) := by
  have hp := two_pow_lt k hk
  have e : bits .or .u64 a (2 ^ k) = ((a.toNat ||| 2 ^ k : Nat) : Int) := by
    rw [u64_or _ _ ha (u64_lt ha') hp.2 (u64_lt hp.1), toNat_two_pow]
  have hlt : a.toNat ||| 2 ^ k < 2 ^ 64 := Nat.or_lt_two_pow (by have := u64_lt ha'; omega) (Nat.pow_lt_pow_right (by decide) hk)
  refine ⟨e, by rw [e]; omega, by rw [e]; unfold U64; omega, fun q => ?_⟩
  rw [e, Int.toNat_natCast, Nat.testBit_or, Nat.testBit_two_pow]

/-- Is b between the two? -/
def inR (lo hi : Int) (b : Nat) : Bool := decide (lo ≤ b ∧ (b : Int) ≤ hi)
theorem and63 {k : Int} (h0 : 0 ≤ k) (h1 : k < 256) : bits .and .i64 k 63 = k % 64 :=
  bits_mask .i64 31 (by decide) (fun n a b => by rw [IntKind.wrap_i64]; have h : (2 : Int) ^ 31 = 2147483648 := by decide
                                                 rw [h] at b; omega) 6 (by decide) k h0 (by have h : (2 : Int) ^ 31 = 2147483648 := by decide
                                                                                            rw [h]; omega)
def setW (x : Nat → Int) (i : Nat) (v : Int) : Nat → Int := fun j => if j = i then v else x j

/-- The walk's spelling of 'c[b>>6] |= 1 << (b & 63)'. -/
theorem or_step {x : Nat → Int} (hx : W64 x) {b : Int} (h0 : 0 ≤ b) (h1 : b < 256) :
    W64 (setW x (b / 64).toNat (bits .or .u64 (x (b / 64).toNat) (IntKind.u64.wrap (2 ^ (b % 64).toNat)))) ∧
      ∀ q : Nat, q < 256 → hasB (setW x (b / 64).toNat (bits .or .u64 (x (b / 64).toNat) (IntKind.u64.wrap (2 ^ (b % 64).toNat)))) q = (hasB x q || decide ((q : Int) = b)) := by
  have hi : (b / 64).toNat < 4 := by omega
  have hk : (b % 64).toNat < 64 := by omega
  have hp := two_pow_lt _ hk
  have ew : IntKind.u64.wrap ((2 : Int) ^ (b % 64).toNat) = 2 ^ (b % 64).toNat := by
    rw [IntKind.wrap_u64]
    exact Int.emod_eq_of_lt hp.2 (u64_lt hp.1)
  rw [ew]
  obtain ⟨_, h2, h3, h4⟩ := or_bit (hx _ hi).1 (hx _ hi).2 _ hk
  refine ⟨fun j hj => ?_, fun q hq => ?_⟩
  · unfold setW
    split
    · exact ⟨h2, h3⟩
    · exact hx j hj
  · unfold hasB setW
    by_cases e : q / 64 = (b / 64).toNat
    · rw [if_pos e, h4, e]
      congr 1
      apply decide_eq_decide.2
      omega
    · rw [if_neg e, show decide ((q : Int) = b) = false from decide_eq_false (by omega), Bool.or_false]

/-- The walk's spelling of '^c[i]'. -/
def notw (a : Int) : Int := bits .xor .u64 (if IntKind.u64.signed = true then -1 else IntKind.u64.max) a
theorem notw_eq (a : Int) : bits .xor .u64 (if IntKind.u64.signed = true then -1 else IntKind.u64.max) a = notw a := rfl
theorem notw_nat {a : Int} (h0 : 0 ≤ a) (h1 : a < U64) : notw a = ((2 ^ 64 - 1 ^^^ a.toNat : Nat) : Int) := by
  have e : (if IntKind.u64.signed = true then -1 else IntKind.u64.max) = (18446744073709551615 : Int) := by decide
  unfold notw
  rw [e, u64_xor _ _ (by decide) (by decide) h0 (u64_lt h1)]
  rfl
theorem notw_range {a : Int} (h0 : 0 ≤ a) (h1 : a < U64) : 0 ≤ notw a ∧ notw a < U64 := by
  rw [notw_nat h0 h1]
  have : 2 ^ 64 - 1 ^^^ a.toNat < 2 ^ 64 := Nat.xor_lt_two_pow (by decide) (by have := u64_lt h1; omega)
  refine ⟨by omega, ?_⟩
  unfold U64
  omega
theorem notw_bit {a : Int} (h0 : 0 ≤ a) (h1 : a < U64) {k : Nat} (hk : k < 64) : (notw a).toNat.testBit k = !a.toNat.testBit k := by
  rw [notw_nat h0 h1, Int.toNat_natCast, Nat.testBit_xor, Nat.testBit_two_pow_sub_one]
  simp [hk]
theorem not_cls {x : Nat → Int} (hx : W64 x) : W64 (fun j => notw (x j)) ∧ ∀ b : Nat, b < 256 → hasB (fun j => notw (x j)) b = !hasB x b :=
  ⟨fun j hj => notw_range (hx j hj).1 (hx j hj).2, fun b hb => notw_bit (hx _ (by omega)).1 (hx _ (by omega)).2 (by omega)⟩

def andw (a b : Int) : Int := bits .and .u64 a b
def orw (a b : Int) : Int := bits .or .u64 a b
theorem and_cls {x y : Nat → Int} (hx : W64 x) (hy : W64 y) : W64 (fun j => andw (x j) (y j)) ∧ ∀ b : Nat, b < 256 → hasB (fun j => andw (x j) (y j)) b = (hasB x b && hasB y b) := by
  have e : ∀ j, j < 4 → andw (x j) (y j) = (((x j).toNat &&& (y j).toNat : Nat) : Int) := fun j hj => by
    unfold andw
    exact u64_and _ _ (hx j hj).1 (u64_lt (hx j hj).2) (hy j hj).1 (u64_lt (hy j hj).2)
  refine ⟨fun j hj => ?_, fun b hb => ?_⟩
  · show 0 ≤ andw (x j) (y j) ∧ andw (x j) (y j) < U64
    rw [e j hj]
    have : (x j).toNat &&& (y j).toNat ≤ (x j).toNat := Nat.and_le_left
    have := hx j hj
    omega
  · show (andw (x (b / 64)) (y (b / 64))).toNat.testBit (b % 64) = _
    rw [e _ (by omega), Int.toNat_natCast, Nat.testBit_and]
    rfl
theorem or_cls {x y : Nat → Int} (hx : W64 x) (hy : W64 y) : W64 (fun j => orw (x j) (y j)) ∧ ∀ b : Nat, b < 256 → hasB (fun j => orw (x j) (y j)) b = (hasB x b || hasB y b) := by
  have e : ∀ j, j < 4 → orw (x j) (y j) = (((x j).toNat ||| (y j).toNat : Nat) : Int) := fun j hj => by
    unfold orw
    exact u64_or _ _ (hx j hj).1 (u64_lt (hx j hj).2) (hy j hj).1 (u64_lt (hy j hj).2)
  refine ⟨fun j hj => ?_, fun b hb => ?_⟩
  · show 0 ≤ orw (x j) (y j) ∧ orw (x j) (y j) < U64
    rw [e j hj]
    have h1 := u64_lt (hx j hj).2
    have h2 := u64_lt (hy j hj).2
    have : (x j).toNat ||| (y j).toNat < 2 ^ 64 := Nat.or_lt_two_pow (by omega) (by omega)
    refine ⟨by omega, ?_⟩
    unfold U64
    omega
  · show (orw (x (b / 64)) (y (b / 64))).toNat.testBit (b % 64) = _
    rw [e _ (by omega), Int.toNat_natCast, Nat.testBit_or]
    rfl

theorem div_pow_range {a : Int} (h0 : 0 ≤ a) (h1 : a < U64) (k : Nat) : 0 ≤ a / 2 ^ k ∧ a / 2 ^ k < U64 :=
  ⟨Int.ediv_nonneg h0 (Int.le_of_lt (Int.pow_pos (by decide))), Int.lt_of_le_of_lt (Int.ediv_le_self _ h0) h1⟩
theorem half_step {a : Int} (h0 : 0 ≤ a) (h1 : a < U64) (k : Nat) : IntKind.u64.wrap ((a / 2 ^ k).tdiv 2) = a / 2 ^ (k + 1) := by
  obtain ⟨p, q⟩ := div_pow_range h0 h1 k
  have q := u64_lt q
  rw [Int.pow_succ, ← Int.ediv_ediv_of_nonneg (Int.le_of_lt (Int.pow_pos (by decide)))]
  generalize a / 2 ^ k = m at p q
  rw [Int.tdiv_eq_ediv_of_nonneg p, IntKind.wrap_u64]
  omega
theorem odd_spelt {a : Int} (h0 : 0 ≤ a) (h1 : a < U64) (k : Nat) : ((a / 2 ^ k).tmod 2 == 1) = a.toNat.testBit k := by
  rw [Nat.testBit_eq_decide_div_mod_eq, ← toNat_div_pow a h0 k]
  obtain ⟨p, q⟩ := div_pow_range h0 h1 k
  generalize a / 2 ^ k = m at p q
  rw [Int.tmod_eq_emod_of_nonneg p, Bool.eq_iff_iff, beq_iff_eq, decide_eq_true_iff]
  omega
theorem double_step (k : Nat) (hk : k + 1 < 64) : IntKind.u64.wrap ((2 : Int) ^ k * 2) = 2 ^ (k + 1) := by
  rw [← Int.pow_succ, IntKind.wrap_u64]
  have := two_pow_lt (k + 1) hk
  exact Int.emod_eq_of_lt this.2 (u64_lt this.1)
/-- A bit that isn't there is put by a sum. -/
theorem add_bit {a : Int} (h0 : 0 ≤ a) (h1 : a < U64) (k : Nat) (hk : k < 64) (hb : a.toNat.testBit k = false) : IntKind.u64.wrap (a + 2 ^ k) = bits .or .u64 a (2 ^ k) := by
  obtain ⟨e, h2, h3, h4⟩ := or_bit h0 h1 k hk
  have hs : a.toNat ||| 2 ^ k = a.toNat + 2 ^ k := by
    have hand : a.toNat &&& 2 ^ k = 0 := by
      apply Nat.eq_of_testBit_eq
      intro i
      rw [Nat.testBit_and, Nat.testBit_two_pow, Nat.zero_testBit]
      by_cases hi : k = i
      · subst hi; simp [hb]
      · simp [hi]
    have ha : a.toNat < 2 ^ 64 := by have := u64_lt h1; omega
    have hk2 : 2 ^ k < 2 ^ 64 := Nat.pow_lt_pow_right (by decide) hk
    have hbv := BitVec.add_eq_or_of_and_eq_zero (BitVec.ofNat 65 a.toNat) (BitVec.ofNat 65 (2 ^ k)) (by
      apply BitVec.eq_of_toNat_eq
      rw [BitVec.toNat_and, BitVec.toNat_ofNat, BitVec.toNat_ofNat, Nat.mod_eq_of_lt (Nat.lt_of_lt_of_le ha (by decide)), Nat.mod_eq_of_lt (Nat.lt_of_lt_of_le hk2 (by decide)), hand]
      rfl)
    have h65 := congrArg BitVec.toNat hbv
    rw [BitVec.toNat_add, BitVec.toNat_or, BitVec.toNat_ofNat, BitVec.toNat_ofNat, Nat.mod_eq_of_lt (Nat.lt_of_lt_of_le ha (by decide)), Nat.mod_eq_of_lt (Nat.lt_of_lt_of_le hk2 (by decide))] at h65
    rw [← h65]
    generalize 2 ^ k = n at hk2
    omega
  have e2 : a + 2 ^ k = ((a.toNat ||| 2 ^ k : Nat) : Int) := by
    rw [hs]
    have : ((2 : Int) ^ k) = ((2 ^ k : Nat) : Int) := by simp
    rw [this]
    omega
  rw [e2, ← e, IntKind.wrap_u64]
  exact Int.emod_eq_of_lt h2 (u64_lt h3)

theorem put_step {x : Nat → Int} (hx : W64 x) {b : Int} (h0 : 0 ≤ b) (h1 : b < 256) {k : Nat} (hk : (k : Int) = b % 64) (hB : hasB x b.toNat = false) :
    W64 (setW x (b / 64).toNat (IntKind.u64.wrap (x (b / 64).toNat + 2 ^ k))) ∧
      ∀ q : Nat, q < 256 → hasB (setW x (b / 64).toNat (IntKind.u64.wrap (x (b / 64).toNat + 2 ^ k))) q = (hasB x q || decide ((q : Int) = b)) := by
  have hw := hx (b / 64).toNat (by omega)
  have ek : (b % 64).toNat = k := by omega
  have hbit : (x (b / 64).toNat).toNat.testBit k = false := by
    unfold hasB at hB
    rwa [show b.toNat / 64 = (b / 64).toNat by omega, show b.toNat % 64 = k by omega] at hB
  have hp := two_pow_lt k (by omega)
  have ew : IntKind.u64.wrap ((2 : Int) ^ k) = 2 ^ k := by
    rw [IntKind.wrap_u64]
    exact Int.emod_eq_of_lt hp.2 (u64_lt hp.1)
  have := or_step hx h0 h1
  rw [ek, ew] at this
  rw [add_bit hw.1 hw.2 k (by omega) hbit]
  exact this

/-- The words of the class of those bytes that f tells. -/
def cwn (f : Nat → Bool) (j : Nat) : Nat → Nat
  | 0 => 0
  | n + 1 => cwn f j n + (if f (64 * j + n) then 2 ^ n else 0)
theorem cwn_lt (f : Nat → Bool) (j : Nat) : ∀ n, cwn f j n < 2 ^ n
  | 0 => by simp [cwn]
  | n + 1 => by
    have := cwn_lt f j n
    rw [cwn, Nat.pow_succ]
    split <;> omega
theorem cwn_bit (f : Nat → Bool) (j : Nat) : ∀ n k, k < n → (cwn f j n).testBit k = f (64 * j + k)
  | 0, k, h => by omega
  | n + 1, k, h => by
    have hl := cwn_lt f j n
    rw [cwn]
    by_cases e : k = n
    · subst e
      split
      · rename_i hf
        rw [Nat.add_comm, Nat.testBit_two_pow_add_eq, Nat.testBit_lt_two_pow hl, hf]
        rfl
      · rename_i hf
        rw [Nat.add_zero, Nat.testBit_lt_two_pow hl]
        simpa using hf
    · have hk : k < n := by omega
      split
      · rw [Nat.add_comm, Nat.testBit_two_pow_add_gt hk, cwn_bit f j n k hk]
      · rw [Nat.add_zero, cwn_bit f j n k hk]
def clsOf (f : Nat → Bool) (j : Nat) : Int := (cwn f j 64 : Nat)
theorem w64_clsOf (f : Nat → Bool) : W64 (clsOf f) := fun j _ => by
  have := cwn_lt f j 64
  unfold clsOf U64
  omega
theorem has_clsOf (f : Nat → Bool) (b : Nat) : hasB (clsOf f) b = f b := by
  unfold hasB clsOf
  rw [Int.toNat_natCast, cwn_bit f _ 64 _ (by omega), show 64 * (b / 64) + b % 64 = b by omega]
theorem clsOf_eq {x : Nat → Int} (hx : W64 x) {f : Nat → Bool} (h : ∀ b, b < 256 → hasB x b = f b) (j : Nat) (hj : j < 4) : x j = clsOf f j :=
  cls_ext hx (w64_clsOf f) (fun b hb => by rw [has_clsOf, h b hb]) j hj
theorem cwn_congr {f g : Nat → Bool} (j : Nat) : ∀ n, (∀ k, k < n → f (64 * j + k) = g (64 * j + k)) → cwn f j n = cwn g j n
  | 0, _ => rfl
  | n + 1, h => by rw [cwn, cwn, cwn_congr j n (fun k hk => h k (by omega)), h n (by omega)]
theorem clsOf_congr {f g : Nat → Bool} (h : ∀ b, b < 256 → f b = g b) (j : Nat) (hj : j < 4) : clsOf f j = clsOf g j := by
  unfold clsOf
  rw [cwn_congr j 64 (fun k hk => h _ (by omega))]
def memB (l : List Int) (b : Nat) : Bool := decide ((b : Int) ∈ l)
end Go.Proofs.Ytmkcbbamfkafmaa
/- The reader of expressions, in plain words: the scanner, the machine with its stack, the document's reader. -/
namespace Go.Proofs.Ytmkcbbamfkafmaa.P
open Go.RowKit Go.Proofs.Ytmkcbbamfkafmaa
set_option linter.unusedVariables false
abbrev T := S28
/-- The i-th byte of a text. -/
def gb (s : ByteArray) (i : Nat) : Int := if h : i < s.size then ((s[i]'h).toNat : Int) else 0
theorem gb_range (s : ByteArray) (i : Nat) : 0 ≤ gb s i ∧ gb s i < 256 := by
  unfold gb
  split
  · rename_i h
    have := (s[i]'h).toNat_lt
    omega
  · omega
/-- Where a reader is: the next byte, the place and the number of an error. -/
structure Sc where
  at_ : Nat
  pl : Int
  e : Int
namespace Sc
def fail (st : Sc) (p e : Int) : Sc := if st.e = 0 then ⟨st.at_, p, e⟩ else st
def adv (st : Sc) : Sc := ⟨st.at_ + 1, st.pl, st.e⟩
end Sc
def isB (s : ByteArray) (st : Sc) (c : Int) : Bool := decide (st.e = 0) && (decide (st.at_ < s.size) && decide (gb s st.at_ = c))
def mayS (s : ByteArray) (st : Sc) (c : Int) : Sc := if isB s st c = true then st.adv else st
def mustS (s : ByteArray) (st : Sc) (c : Int) : Sc := if isB s st c = true then st.adv else st.fail st.at_ 2
def hexI (c : Int) : Int := if 48 ≤ c ∧ c ≤ 57 then c - 48 else if 97 ≤ c ∧ c ≤ 102 then c - 87 else -1
def digitS (s : ByteArray) (st : Sc) : Int × Sc :=
  if st.e = 0 ∧ st.at_ < s.size ∧ 0 ≤ hexI (gb s st.at_) then (hexI (gb s st.at_), st.adv) else (0, st.fail st.at_ 2)
/-- May it stand behind a \ ? -/
def escC (c : Int) : Bool := c == 40 || c == 41 || c == 91 || c == 93 || c == 123 || c == 125 || c == 124 || c == 42 || c == 43 || c == 63 || c == 46 || c == 92 || c == 45 || c == 94
/-- May it not stand in a class? -/
def inC (c : Int) : Bool := c == 93 || c == 92 || c == 45 || c == 94
def escapeS (s : ByteArray) (st : Sc) : Int × Sc :=
  if isB s st 110 = true then (10, st.adv) else if isB s st 116 = true then (9, st.adv) else if isB s st 120 = true then
    ((digitS s st.adv).1 * 16 + (digitS s (digitS s st.adv).2).1, (digitS s (digitS s st.adv).2).2)
  else if st.at_ < s.size ∧ escC (gb s st.at_) = true then (gb s st.at_, st.adv) else (0, st.fail st.at_ 2)
def itemS (s : ByteArray) (st : Sc) : Int × Sc :=
  if isB s st 92 = true then escapeS s st.adv else if st.e = 0 ∧ st.at_ < s.size ∧ inC (gb s st.at_) = false then (gb s st.at_, st.adv) else (0, st.fail st.at_ 2)
/-- From which byte to which. -/
def itemsS (s : ByteArray) (st : Sc) : (Int × Int) × Sc :=
  if isB s (itemS s st).2 45 = true then
    (((itemS s st).1, (itemS s (itemS s st).2.adv).1), if (itemS s st).1 > (itemS s (itemS s st).2.adv).1 then (itemS s (itemS s st).2.adv).2.fail (itemS s st).2.at_ 2 else (itemS s (itemS s st).2.adv).2)
  else (((itemS s st).1, (itemS s st).1), (itemS s st).2)
def setGo (s : ByteArray) : Nat → (Nat → Bool) → Sc → (Nat → Bool) × Sc
  | 0, f, st => (f, st)
  | n + 1, f, st => if st.e = 0 then (if isB s st 93 = true then (f, st.adv) else setGo s n (fun q => f q || inR (itemsS s st).1.1 (itemsS s st).1.2 q) (itemsS s st).2) else (f, st)
def setS (s : ByteArray) (st : Sc) : (Nat → Bool) × Sc :=
  let st1 := mayS s st 94
  let r := setGo s (s.size + 3) (inR (itemsS s st1).1.1 (itemsS s st1).1.2) (itemsS s st1).2
  (if isB s st 94 = true then (fun q => !r.1 q) else r.1, r.2)
def digC (s : ByteArray) (a : Nat) : Prop := a < s.size ∧ 48 ≤ gb s a ∧ gb s a ≤ 57
instance (s : ByteArray) (a : Nat) : Decidable (digC s a) := inferInstanceAs (Decidable (_ ∧ _))
def numGo (s : ByteArray) : Nat → Int → Nat → Int × Nat
  | 0, n, a => (n, a)
  | k + 1, n, a => if digC s a then numGo s k (min (10 * n + (gb s a - 48)) 2147483648) (a + 1) else (n, a)
def numberS (s : ByteArray) (st : Sc) : Int × Sc :=
  if st.e = 0 then
    ((numGo s (s.size - st.at_) 0 st.at_).1,
      if (numGo s (s.size - st.at_) 0 st.at_).2 = st.at_ then ⟨st.at_, st.at_, 2⟩
      else if (numGo s (s.size - st.at_) 0 st.at_).1 > 2147483647 then ⟨(numGo s (s.size - st.at_) 0 st.at_).2, st.at_, 3⟩ else ⟨(numGo s (s.size - st.at_) 0 st.at_).2, st.pl, 0⟩)
  else (0, st)
/-- The second number, where there is a comma. -/
def times2 (s : ByteArray) (a : Int) (st : Sc) : Int × Sc :=
  if isB s st 44 = true then (if isB s st.adv 125 = true then (-1, st.adv) else numberS s st.adv) else (a, st)
def timesS (s : ByteArray) (st : Sc) : (Int × Int) × Sc :=
  let a := numberS s st
  let b := times2 s a.1 a.2
  let m := mustS s b.2 125
  ((a.1, b.1), if b.1 ≠ -1 ∧ a.1 > b.1 then m.fail ((st.at_ : Int) - 1) 2 else m)

/-! #### the machine -/
def zN : T := ⟨0, ⟨0, 0, 0, 0⟩, [], 0, 0⟩
def oneN (kind : Int) (l : List T) : T := match l with
  | [] => zN
  | [x] => x
  | x :: y :: r => ⟨kind, ⟨0, 0, 0, 0⟩, x :: y :: r, 0, 0⟩
def setN (f : Nat → Bool) : T := ⟨1, ⟨clsOf f 0, clsOf f 1, clsOf f 2, clsOf f 3⟩, [], 0, 0⟩
def timN (t : T) (lo hi : Int) : T := ⟨4, ⟨0, 0, 0, 0⟩, [t], lo, hi⟩
/-- A level: its rows, and the row that is being read. -/
structure Lv where
  rows : List T
  row : List T
namespace Lv
def close (v : Lv) : Lv := ⟨v.rows ++ [oneN 2 v.row], []⟩
def put (v : Lv) (t : T) : Lv := ⟨v.rows, v.row ++ [t]⟩
def rep (v : Lv) (lo hi : Int) : Lv := ⟨v.rows, v.row.dropLast ++ [timN (v.row.getLastD zN) lo hi]⟩
def done (v : Lv) : T := oneN 3 v.close.rows
end Lv
structure Mc where
  sc : Sc
  top : Lv
  rest : List Lv
namespace Mc
def repeat_ (m : Mc) (at_ lo hi : Int) : Mc := if m.top.row = [] then ⟨m.sc.fail at_ 2, m.top, m.rest⟩ else ⟨m.sc, m.top.rep lo hi, m.rest⟩
def put (m : Mc) (t : T) : Mc := ⟨m.sc, m.top.put t, m.rest⟩
end Mc
def stepM (s : ByteArray) (m : Mc) : Mc :=
  let at_ := m.sc.at_
  let c := gb s at_
  let m1 : Mc := ⟨m.sc.adv, m.top, m.rest⟩
  if c = 40 then ⟨m1.sc, ⟨[], []⟩, m.top :: m.rest⟩
  else if c = 41 then (match m.rest with
    | [] => ⟨m1.sc.fail at_ 2, m.top, []⟩
    | p :: r => ⟨m1.sc, p.put m.top.done, r⟩)
  else if c = 124 then ⟨m1.sc, m.top.close, m.rest⟩
  else if c = 42 then m1.repeat_ at_ 0 (-1)
  else if c = 43 then m1.repeat_ at_ 1 (-1)
  else if c = 63 then m1.repeat_ at_ 0 1
  else if c = 123 then (if m.top.row = [] then ⟨m1.sc.fail at_ 2, m.top, m.rest⟩ else ⟨(timesS s m1.sc).2, m.top.rep (timesS s m1.sc).1.1 (timesS s m1.sc).1.2, m.rest⟩)
  else if c = 46 then m1.put (setN (inR 0 255))
  else if c = 91 then ⟨(setS s m1.sc).2, m.top.put (setN (setS s m1.sc).1), m.rest⟩
  else if c = 92 then ⟨(escapeS s m1.sc).2, m.top.put (setN (fun q => decide ((q : Int) = (escapeS s m1.sc).1))), m.rest⟩
  else if c = 93 ∨ c = 125 then ⟨m1.sc.fail at_ 2, m.top, m.rest⟩
  else m1.put (setN (fun q => decide ((q : Int) = c)))
def goes (s : ByteArray) (st : Sc) : Prop := st.e = 0 ∧ st.at_ < s.size
instance (s : ByteArray) (st : Sc) : Decidable (goes s st) := inferInstanceAs (Decidable (_ ∧ _))
def runM (s : ByteArray) : Nat → Mc → Mc
  | 0, m => m
  | n + 1, m => if goes s m.sc then runM s n (stepM s m) else m
def endM (m : Mc) : Sc := match m.rest with
  | [] => m.sc
  | _ :: _ => m.sc.fail m.sc.at_ 2
mutual
def depthT : T → Nat
  | ⟨_, _, ps, _, _⟩ => depthL ps + 1
def depthL : List T → Nat
  | [] => 0
  | p :: ps => max (depthT p) (depthL ps)
end
mutual
def placesT : T → Nat
  | ⟨k, _, ps, _, _⟩ => (if k = 1 then 1 else 0) + placesL ps
def placesL : List T → Nat
  | [] => 0
  | p :: ps => placesT p + placesL ps
end
theorem depthT_eq (x : T) : depthT x = depthL x.f2 + 1 := by cases x; rw [depthT]
theorem placesT_eq (x : T) : placesT x = (if x.f0 = 1 then 1 else 0) + placesL x.f2 := by cases x; rw [placesT]
def wideT (t : T) : Prop := depthT t > 20 ∨ placesT t > 40
instance (t : T) : Decidable (wideT t) := inferInstanceAs (Decidable (_ ∨ _))
def m0 : Mc := ⟨⟨0, 0, 0⟩, ⟨[], []⟩, []⟩
/-- What a text is read as: the tree, the place, the error. -/
structure Out where
  t : T
  pl : Int
  e : Int
def parseS (s : ByteArray) : Out :=
  if s.size > 400 then ⟨zN, 0, 3⟩ else
  let m := runM s (s.size + 1) m0
  if (endM m).e ≠ 0 then ⟨zN, (endM m).pl, (endM m).e⟩ else if wideT m.top.done then ⟨zN, 0, 3⟩ else ⟨m.top.done, 0, 0⟩
end Go.Proofs.Ytmkcbbamfkafmaa.P
/- The document's reader, in plain words; it and the machine come to the same. -/
namespace Go.Proofs.Ytmkcbbamfkafmaa.P
open Go.RowKit Go.Proofs.Ytmkcbbamfkafmaa
set_option linter.unusedVariables false
set_option linter.unusedSimpArgs false
variable (s : ByteArray)

/-! #### where the scanner stops -/
def Le (a : Nat) (st : Sc) : Prop := a ≤ st.at_ ∧ st.at_ ≤ s.size
variable {s}
theorem Le.refl {st : Sc} (h : st.at_ ≤ s.size) : Le s st.at_ st := ⟨Nat.le_refl _, h⟩
theorem Le.trans {a : Nat} {st st' : Sc} (h : Le s a st) (h' : Le s st.at_ st') : Le s a st' := ⟨Nat.le_trans h.1 h'.1, h'.2⟩
theorem fail_at (st : Sc) (p e : Int) : (st.fail p e).at_ = st.at_ := by unfold Sc.fail; split <;> rfl
theorem Le.fail {a : Nat} {st : Sc} (h : Le s a st) (p e : Int) : Le s a (st.fail p e) := by unfold Le; rw [fail_at]; exact h
theorem Le.adv {a : Nat} {st : Sc} (h : Le s a st) (h' : st.at_ < s.size) : Le s a st.adv := ⟨by have := h.1; show a ≤ st.at_ + 1; omega, h'⟩
theorem isB_lt {st : Sc} {c : Int} (h : isB s st c = true) : st.e = 0 ∧ st.at_ < s.size ∧ gb s st.at_ = c := by
  unfold isB at h
  simpa using h
theorem le_may {st : Sc} (h : st.at_ ≤ s.size) (c : Int) : Le s st.at_ (mayS s st c) := by
  unfold mayS
  split
  · rename_i hb; exact (Le.refl h).adv (isB_lt hb).2.1
  · exact Le.refl h
theorem le_must {st : Sc} (h : st.at_ ≤ s.size) (c : Int) : Le s st.at_ (mustS s st c) := by
  unfold mustS
  split
  · rename_i hb; exact (Le.refl h).adv (isB_lt hb).2.1
  · exact (Le.refl h).fail _ _
theorem le_digit {st : Sc} (h : st.at_ ≤ s.size) : Le s st.at_ (digitS s st).2 := by
  unfold digitS
  split
  · rename_i hb; exact (Le.refl h).adv hb.2.1
  · exact (Le.refl h).fail _ _
theorem le_escape {st : Sc} (h : st.at_ ≤ s.size) : Le s st.at_ (escapeS s st).2 := by
  unfold escapeS
  split
  · rename_i hb; exact (Le.refl h).adv (isB_lt hb).2.1
  split
  · rename_i hb; exact (Le.refl h).adv (isB_lt hb).2.1
  split
  · rename_i hb
    have h1 := (Le.refl h).adv (isB_lt hb).2.1
    have h2 := le_digit h1.2
    exact h1.trans (h2.trans (le_digit h2.2))
  split
  · rename_i hb; exact (Le.refl h).adv hb.1
  · exact (Le.refl h).fail _ _
theorem le_item {st : Sc} (h : st.at_ ≤ s.size) : Le s st.at_ (itemS s st).2 := by
  unfold itemS
  split
  · rename_i hb
    have h1 := (Le.refl h).adv (isB_lt hb).2.1
    exact h1.trans (le_escape h1.2)
  split
  · rename_i hb; exact (Le.refl h).adv hb.2.1
  · exact (Le.refl h).fail _ _
theorem le_items {st : Sc} (h : st.at_ ≤ s.size) : Le s st.at_ (itemsS s st).2 := by
  have h0 := le_item h
  unfold itemsS
  split
  · rename_i hb
    have h1 := h0.trans ((Le.refl h0.2).adv (isB_lt hb).2.1)
    have h2 := h1.trans (le_item h1.2)
    dsimp only
    split
    · exact h2.fail _ _
    · exact h2
  · exact h0
theorem le_setGo : ∀ (n : Nat) (f : Nat → Bool) {st : Sc}, st.at_ ≤ s.size → Le s st.at_ (setGo s n f st).2
  | 0, f, st, h => Le.refl h
  | n + 1, f, st, h => by
    rw [setGo]
    split
    · split
      · rename_i hb; exact (Le.refl h).adv (isB_lt hb).2.1
      · exact (le_items h).trans (le_setGo n _ (le_items h).2)
    · exact Le.refl h
theorem le_set {st : Sc} (h : st.at_ ≤ s.size) : Le s st.at_ (setS s st).2 := by
  unfold setS
  have h1 := le_may h 94
  have h2 := h1.trans (le_items h1.2)
  exact h2.trans (le_setGo _ _ h2.2)
theorem numGo_at : ∀ (k : Nat) (n : Int) (a : Nat), a ≤ s.size → a ≤ (numGo s k n a).2 ∧ (numGo s k n a).2 ≤ s.size
  | 0, n, a, h => ⟨Nat.le_refl _, h⟩
  | k + 1, n, a, h => by
    rw [numGo]
    split
    · rename_i hd
      have := numGo_at k (min (10 * n + (gb s a - 48)) 2147483648) (a + 1) (by have := hd.1; omega)
      omega
    · exact ⟨Nat.le_refl _, h⟩
theorem le_number {st : Sc} (h : st.at_ ≤ s.size) : Le s st.at_ (numberS s st).2 := by
  unfold numberS
  split
  · have := numGo_at (s := s) (s.size - st.at_) 0 st.at_ h
    dsimp only
    split
    · exact Le.refl (st := ⟨st.at_, st.at_, 2⟩) h
    split
    · exact this
    · exact this
  · exact Le.refl h
theorem le_times2 {st : Sc} (a : Int) (h : st.at_ ≤ s.size) : Le s st.at_ (times2 s a st).2 := by
  unfold times2
  split
  · rename_i hb
    have h1 := (Le.refl h).adv (isB_lt hb).2.1
    split
    · exact h1
    · exact h1.trans (le_number h1.2)
  · exact Le.refl h
theorem le_times {st : Sc} (h : st.at_ ≤ s.size) : Le s st.at_ (timesS s st).2 := by
  unfold timesS
  have h1 := le_number h
  have h2 := h1.trans (le_times2 (numberS s st).1 h1.2)
  have h3 := h2.trans (le_must h2.2 125)
  dsimp only
  split
  · exact h3.fail _ _
  · exact h3
theorem step_at {m : Mc} (h : goes s m.sc) : Le s (m.sc.at_ + 1) (stepM s m).sc := by
  have h1 : Le s (m.sc.at_ + 1) m.sc.adv := ⟨Nat.le_refl _, h.2⟩
  have h2 : m.sc.adv.at_ ≤ s.size := h.2
  have hi : ∀ {c : Prop} [Decidable c] {a b : Mc}, Le s (m.sc.at_ + 1) a.sc → Le s (m.sc.at_ + 1) b.sc → Le s (m.sc.at_ + 1) (if c then a else b).sc := fun {c} _ {a b} ha hb => by
    split
    · exact ha
    · exact hb
  unfold stepM Mc.repeat_ Mc.put
  dsimp only
  refine hi h1 (hi ?_ (hi h1 (hi (hi (h1.fail _ _) h1) (hi (hi (h1.fail _ _) h1) (hi (hi (h1.fail _ _) h1) (hi (hi (h1.fail _ _) (h1.trans (le_times h2))) (hi h1 (hi (h1.trans (le_set h2)) (hi (h1.trans (le_escape h2)) (hi (h1.fail _ _) h1))))))))))
  split
  · exact h1.fail _ _
  · exact h1

/-! #### the machine's run -/
theorem runM_fuel : ∀ (n k : Nat) (m : Mc), s.size - m.sc.at_ < n → s.size - m.sc.at_ < k → runM s n m = runM s k m
  | 0, k, m, h, h' => by omega
  | n + 1, 0, m, h, h' => by omega
  | n + 1, k + 1, m, h, h' => by
    rw [runM, runM]
    split
    · rename_i hg
      have h1 := step_at hg
      have h2 := hg.2
      have h3 := h1.1
      exact runM_fuel n k _ (by omega) (by omega)
    · rfl
variable (s) in
def runF (m : Mc) : Mc := runM s (s.size + 1 - m.sc.at_) m
theorem runF_go {m : Mc} (h : goes s m.sc) : runF s m = runF s (stepM s m) := by
  have h1 := step_at h
  have h2 := h.2
  have h3 := h1.1
  have h4 := h1.2
  unfold runF
  obtain ⟨n, hn⟩ : ∃ n, s.size + 1 - m.sc.at_ = n + 1 := ⟨s.size - m.sc.at_, by omega⟩
  rw [hn, runM, if_pos h]
  exact runM_fuel _ _ _ (by omega) (by omega)
theorem runF_stop {m : Mc} (h : ¬ goes s m.sc) : runF s m = m := by
  unfold runF
  obtain ⟨n, hn⟩ : ∃ n, s.size + 1 - m.sc.at_ = n := ⟨_, rfl⟩
  rw [hn]
  cases n with
  | zero => rfl
  | succ n => rw [runM, if_neg h]

/-! #### the document's reader -/
variable (s) in
def numGoR : Nat → Int → Nat → Int × Nat
  | 0, n, a => (n, a)
  | k + 1, n, a => if digC s a then numGoR k (if n ≤ 2147483647 then 10 * n + (gb s a - 48) else n) (a + 1) else (n, a)
theorem numGoR_eq : ∀ (k : Nat) (n : Int) (a : Nat), 0 ≤ n → numGo s k (min n 2147483648) a = (min (numGoR s k n a).1 2147483648, (numGoR s k n a).2) ∧ 0 ≤ (numGoR s k n a).1
  | 0, n, a, h => ⟨rfl, h⟩
  | k + 1, n, a, h => by
    rw [numGo, numGoR]
    split
    · rename_i hd
      obtain ⟨_, h1, h2⟩ := hd
      have h3 : min (10 * min n 2147483648 + (gb s a - 48)) 2147483648 = min (if n ≤ 2147483647 then 10 * n + (gb s a - 48) else n) 2147483648 := by
        split <;> omega
      rw [h3]
      exact numGoR_eq k _ _ (by split <;> omega)
    · exact ⟨rfl, h⟩
variable (s) in
def numberR (st : Sc) : Int × Sc :=
  if st.e = 0 then ((numGoR s (s.size - st.at_) 0 st.at_).1, (numberS s st).2) else (0, st)
theorem numberR_sc (st : Sc) : (numberR s st).2 = (numberS s st).2 := by
  unfold numberR
  split
  · rfl
  · unfold numberS; rename_i h; rw [if_neg h]
theorem numberR_val (st : Sc) : (numberS s st).1 = min (numberR s st).1 2147483648 ∧ 0 ≤ (numberR s st).1 := by
  have h := numGoR_eq (s := s) (s.size - st.at_) 0 st.at_ (by omega)
  rw [show min (0 : Int) 2147483648 = 0 from rfl] at h
  unfold numberR numberS
  split
  · exact ⟨congrArg Prod.fst h.1, h.2⟩
  · exact ⟨rfl, by show (0 : Int) ≤ 0; omega⟩
theorem number_big (st : Sc) (h : (numberS s st).2.e = 0) : (numberS s st).1 ≤ 2147483647 := by
  unfold numberS at h ⊢
  split at h
  · rename_i h0
    rw [if_pos h0]
    dsimp only at h ⊢
    split at h
    · cases h
    split at h
    · cases h
    · omega
  · rename_i h0; exact absurd h h0
theorem numberR_same (st : Sc) (h : (numberS s st).2.e = 0) : (numberR s st).1 = (numberS s st).1 := by
  have h1 := numberR_val (s := s) st
  have h2 := number_big st h
  omega
variable (s) in
def times2R (a : Int) (st : Sc) : Int × Sc :=
  if isB s st 44 = true then (if isB s st.adv 125 = true then (-1, st.adv) else numberR s st.adv) else (a, st)
theorem times2R_sc (a b : Int) (st : Sc) : (times2R s a st).2 = (times2 s b st).2 := by
  unfold times2R times2
  split
  · split
    · rfl
    · exact numberR_sc _
  · rfl
theorem times2R_same (a : Int) (st : Sc) (h : (times2 s a st).2.e = 0) : (times2R s a st).1 = (times2 s a st).1 := by
  unfold times2R times2 at *
  split
  · rename_i h1
    rw [if_pos h1] at h
    split
    · rfl
    · rename_i h2
      rw [if_neg h2] at h
      exact numberR_same _ h
  · rfl
theorem fail_ne {st : Sc} (h : st.e ≠ 0) (p e : Int) : st.fail p e = st := by unfold Sc.fail; rw [if_neg h]
theorem isB_ne {st : Sc} (h : st.e ≠ 0) (c : Int) : isB s st c = false := by unfold isB; rw [decide_eq_false h]; rfl
theorem must_ne {st : Sc} (h : st.e ≠ 0) (c : Int) : mustS s st c = st := by
  unfold mustS
  rw [isB_ne h, if_neg (by decide), fail_ne h]
theorem number_ne {st : Sc} (h : st.e ≠ 0) : numberS s st = (0, st) := by unfold numberS; rw [if_neg h]
theorem times2_ne {st : Sc} (h : st.e ≠ 0) (a : Int) : times2 s a st = (a, st) := by
  unfold times2
  rw [isB_ne h, if_neg (by decide)]
variable (s) in
def timesR (st : Sc) : (Int × Int) × Sc :=
  let a := numberR s st
  let b := times2R s a.1 a.2
  let m := mustS s b.2 125
  ((a.1, b.1), if b.1 ≥ 0 ∧ a.1 > b.1 then m.fail ((st.at_ : Int) - 1) 2 else m)
theorem number_nonneg (st : Sc) : 0 ≤ (numberS s st).1 := by have := numberR_val (s := s) st; omega
theorem times2_lo (a : Int) (st : Sc) (ha : 0 ≤ a) : -1 ≤ (times2 s a st).1 := by
  unfold times2
  split
  · split
    · show (-1 : Int) ≤ -1; omega
    · have := number_nonneg (s := s) st.adv; omega
  · show -1 ≤ a; omega
theorem timesR_eq (st : Sc) : (timesR s st).2 = (timesS s st).2 ∧ ((timesS s st).2.e = 0 → (timesR s st).1 = (timesS s st).1) := by
  unfold timesR timesS
  dsimp only
  by_cases h1 : (numberS s st).2.e = 0
  · have e1 := numberR_same st h1
    rw [e1, numberR_sc, times2R_sc _ (numberS s st).1]
    by_cases h2 : (times2 s (numberS s st).1 (numberS s st).2).2.e = 0
    · have e2 := times2R_same _ _ h2
      rw [e2]
      have h3 := times2_lo (s := s) (numberS s st).1 (numberS s st).2 (number_nonneg st)
      refine ⟨?_, fun _ => rfl⟩
      congr 1
      apply propext
      constructor
      · rintro ⟨a, b⟩; exact ⟨by omega, b⟩
      · rintro ⟨a, b⟩; exact ⟨by omega, b⟩
    · rw [must_ne h2, fail_ne h2]
      constructor
      · split <;> split <;> rfl
      · intro h
        split at h <;> exact absurd h h2
  · rw [numberR_sc, times2R_sc _ (numberS s st).1, times2_ne h1, must_ne h1, fail_ne h1]
    constructor
    · split <;> split <;> rfl
    · intro h
      split at h <;> exact absurd h h1
variable (s) in
/-- How often, behind an atom. -/
def repGo : Nat → T → Sc → T × Sc
  | 0, t, st => (t, st)
  | n + 1, t, st =>
    if isB s st 43 = true then repGo n (timN t 1 (-1)) st.adv
    else if isB s st 63 = true then repGo n (timN t 0 1) st.adv
    else if isB s st 123 = true then repGo n (timN t (timesR s st.adv).1.1 (timesR s st.adv).1.2) (timesR s st.adv).2
    else if isB s st 42 = true then repGo n (timN t 0 (-1)) st.adv
    else (t, st)
theorem repGo_ne : ∀ (n : Nat) (t : T) {st : Sc}, st.e ≠ 0 → repGo s n t st = (t, st)
  | 0, t, st, h => rfl
  | n + 1, t, st, h => by
    rw [repGo, isB_ne h, isB_ne h, isB_ne h, isB_ne h]
    rfl
theorem timesR_le {st : Sc} (h : st.at_ ≤ s.size) : Le s st.at_ (timesR s st).2 := by rw [(timesR_eq st).1]; exact le_times h
theorem repGo_fuel : ∀ (n k : Nat) (t : T) (st : Sc), st.at_ ≤ s.size → s.size - st.at_ < n → s.size - st.at_ < k → repGo s n t st = repGo s k t st
  | 0, k, t, st, h0, h, h' => by omega
  | n + 1, 0, t, st, h0, h, h' => by omega
  | n + 1, k + 1, t, st, h0, h, h' => by
    have key : ∀ c, isB s st c = true → st.at_ < s.size := fun c hc => (isB_lt hc).2.1
    have step : ∀ (c : Int) (u : T) (st' : Sc), isB s st c = true → Le s (st.at_ + 1) st' → repGo s n u st' = repGo s k u st' := fun c u st' hc hl => by
      have := key c hc
      have h1 := hl.1
      exact repGo_fuel n k u st' hl.2 (by omega) (by omega)
    rw [repGo, repGo]
    split
    · rename_i hc; exact step _ _ _ hc ⟨Nat.le_refl _, key _ hc⟩
    split
    · rename_i hc; exact step _ _ _ hc ⟨Nat.le_refl _, key _ hc⟩
    split
    · rename_i hc
      exact step _ _ _ hc (timesR_le (st := st.adv) (key _ hc))
    split
    · rename_i hc; exact step _ _ _ hc ⟨Nat.le_refl _, key _ hc⟩
    · rfl
theorem repGo_at : ∀ (n : Nat) (t : T) (st : Sc), st.at_ ≤ s.size → Le s st.at_ (repGo s n t st).2
  | 0, t, st, h => Le.refl h
  | n + 1, t, st, h => by
    have key : ∀ (c : Int) (u : T) (st' : Sc), isB s st c = true → Le s st.adv.at_ st' → Le s st.at_ (repGo s n u st').2 := fun c u st' hc hl => by
      have h1 := repGo_at n u st' hl.2
      exact ⟨by have := hl.1; have := h1.1; have : st.adv.at_ = st.at_ + 1 := rfl; omega, h1.2⟩
    have hlt : ∀ c, isB s st c = true → st.adv.at_ ≤ s.size := fun c hc => (isB_lt hc).2.1
    rw [repGo]
    split
    · rename_i hc; exact key _ _ _ hc (Le.refl (hlt _ hc))
    split
    · rename_i hc; exact key _ _ _ hc (Le.refl (hlt _ hc))
    split
    · rename_i hc; exact key _ _ _ hc (timesR_le (hlt _ hc))
    split
    · rename_i hc; exact key _ _ _ hc (Le.refl (hlt _ hc))
    · exact Le.refl h
/-- What stands for no atom. -/
def badC (c : Int) : Bool := c == 93 || c == 125 || c == 42 || c == 43 || c == 63 || c == 123
variable (s) in
def atomE (c : Int) (st : Sc) : T × Sc :=
  if c = 91 then (setN (setS s st.adv).1, (setS s st.adv).2)
  else if c = 46 then (setN (inR 0 255), st.adv)
  else if c = 92 then (setN (fun q => decide ((q : Int) = (escapeS s st.adv).1)), (escapeS s st.adv).2)
  else (setN (fun q => decide ((q : Int) = c)), st.adv)
variable (s) in
def altGo : Nat → List T → List T → Sc → T × Sc
  | 0, rows, row, st => (zN, st)
  | n + 1, rows, row, st =>
    if goes s st ∧ gb s st.at_ ≠ 41 ∧ gb s st.at_ ≠ 124 then
      if badC (gb s st.at_) = true then (Lv.done ⟨rows, row⟩, st.fail st.at_ 2)
      else if gb s st.at_ = 40 then
        altGo n rows (row ++ [(repGo s (s.size + 1) (altGo n [] [] st.adv).1 (mustS s (altGo n [] [] st.adv).2 41)).1]) (repGo s (s.size + 1) (altGo n [] [] st.adv).1 (mustS s (altGo n [] [] st.adv).2 41)).2
      else altGo n rows (row ++ [(repGo s (s.size + 1) (atomE s (gb s st.at_) st).1 (atomE s (gb s st.at_) st).2).1]) (repGo s (s.size + 1) (atomE s (gb s st.at_) st).1 (atomE s (gb s st.at_) st).2).2
    else if isB s st 124 = true then altGo n (rows ++ [oneN 2 row]) [] st.adv
    else (Lv.done ⟨rows, row⟩, st)
theorem atomE_le {st : Sc} (h : goes s st) (c : Int) : Le s (st.at_ + 1) (atomE s c st).2 := by
  have h1 : Le s (st.at_ + 1) st.adv := ⟨Nat.le_refl _, h.2⟩
  unfold atomE
  split
  · exact h1.trans (le_set h1.2)
  split
  · exact h1
  split
  · exact h1.trans (le_escape h1.2)
  · exact h1
theorem altGo_at : ∀ (n : Nat) (rows row : List T) (st : Sc), st.at_ ≤ s.size → Le s st.at_ (altGo s n rows row st).2
  | 0, rows, row, st, h => Le.refl h
  | n + 1, rows, row, st, h => by
    rw [altGo]
    split
    · rename_i hg
      have h1 : st.adv.at_ ≤ s.size := hg.1.2
      have up : ∀ {st' : Sc}, Le s st.adv.at_ st' → Le s st.at_ st' := fun hl => ⟨by have := hl.1; have : st.adv.at_ = st.at_ + 1 := rfl; omega, hl.2⟩
      split
      · exact (Le.refl h).fail _ _
      split
      · have h2 := altGo_at n [] [] st.adv h1
        have h3 := h2.trans (le_must h2.2 41)
        have h4 := h3.trans (repGo_at (s.size + 1) (altGo s n [] [] st.adv).1 _ h3.2)
        exact up (h4.trans (altGo_at n _ _ _ h4.2))
      · have h3 := atomE_le hg.1 (gb s st.at_)
        have h4 := Le.trans h3 (repGo_at (s.size + 1) (atomE s (gb s st.at_) st).1 _ h3.2)
        exact up (Le.trans h4 (altGo_at n _ _ _ h4.2))
    · split
      · rename_i hc
        have h1 : st.adv.at_ ≤ s.size := (isB_lt hc).2.1
        have h2 := altGo_at n (rows ++ [oneN 2 row]) [] st.adv h1
        exact ⟨by have := h2.1; have : st.adv.at_ = st.at_ + 1 := rfl; omega, h2.2⟩
      · exact Le.refl h
theorem altGo_fuel : ∀ (n k : Nat) (rows row : List T) (st : Sc), st.at_ ≤ s.size → s.size - st.at_ < n → s.size - st.at_ < k → altGo s n rows row st = altGo s k rows row st
  | 0, k, rows, row, st, h0, h, h' => by omega
  | n + 1, 0, rows, row, st, h0, h, h' => by omega
  | n + 1, k + 1, rows, row, st, h0, h, h' => by
    rw [altGo, altGo]
    split
    · rename_i hg
      have hlt := hg.1.2
      have ha : st.adv.at_ = st.at_ + 1 := rfl
      have step : ∀ (rows row : List T) (st' : Sc), Le s st.adv.at_ st' → altGo s n rows row st' = altGo s k rows row st' := fun rows row st' hl => by
        have h1 := hl.1
        exact altGo_fuel n k rows row st' hl.2 (by omega) (by omega)
      split
      · rfl
      split
      · rw [step [] [] st.adv (Le.refl hlt)]
        have h2 := altGo_at k [] [] st.adv hlt
        have h3 := h2.trans (le_must h2.2 41)
        exact step _ _ _ (h3.trans (repGo_at (s.size + 1) (altGo s k [] [] st.adv).1 _ h3.2))
      · have h3 := atomE_le hg.1 (gb s st.at_)
        exact step _ _ _ (Le.trans h3 (repGo_at (s.size + 1) (atomE s (gb s st.at_) st).1 _ h3.2))
    · split
      · rename_i hc
        have hlt := (isB_lt hc).2.1
        have ha : st.adv.at_ = st.at_ + 1 := rfl
        exact altGo_fuel n k _ _ _ hlt (by omega) (by omega)
      · rfl

/-! #### both come to the same -/
theorem two_ne : (2 : Int) ≠ 0 := by decide
theorem endM_ne {m : Mc} (h : m.sc.e ≠ 0) : endM m = m.sc := by
  unfold endM
  split
  · rfl
  · exact fail_ne h _ _
variable (s) in
def nrep (st : Sc) : Prop := ∀ c : Int, c = 42 ∨ c = 43 ∨ c = 63 ∨ c = 123 → isB s st c = false
variable (s) in
/-- The machine ends with this error. -/
def Ends (m : Mc) (st : Sc) : Prop := (endM (runF s m)).pl = st.pl ∧ (endM (runF s m)).e = st.e
theorem ends_of {m : Mc} {st : Sc} (h : m.sc.e ≠ 0) (h1 : m.sc.pl = st.pl) (h2 : m.sc.e = st.e) : Ends s m st := by
  have h3 : runF s m = m := runF_stop fun hg => h hg.1
  unfold Ends
  rw [h3, endM_ne h]
  exact ⟨h1, h2⟩
theorem isB_self {st : Sc} (h : goes s st) : isB s st (gb s st.at_) = true := by
  unfold isB
  rw [decide_eq_true h.1, decide_eq_true h.2, decide_eq_true rfl]
  rfl
theorem getLastD_snoc (row : List T) (t u : T) : (row ++ [t]).getLastD u = t := by simp
theorem rep_run : ∀ (n : Nat) (t : T) (st : Sc) (rows row : List T) (rest : List Lv), st.at_ ≤ s.size → s.size - st.at_ < n →
    ((repGo s n t st).2.e ≠ 0 ∧ Ends s ⟨st, ⟨rows, row ++ [t]⟩, rest⟩ (repGo s n t st).2) ∨
    ((repGo s n t st).2.e = 0 ∧ runF s ⟨st, ⟨rows, row ++ [t]⟩, rest⟩ = runF s ⟨(repGo s n t st).2, ⟨rows, row ++ [(repGo s n t st).1]⟩, rest⟩ ∧ nrep s (repGo s n t st).2)
  | 0, t, st, rows, row, rest, h, h' => by omega
  | n + 1, t, st, rows, row, rest, h, h' => by
    have ha : st.adv.at_ = st.at_ + 1 := rfl
    have hne : ¬ row ++ [t] = [] := by simp
    have step : ∀ (c lo hi : Int) (st' : Sc), isB s st c = true → Le s st.adv.at_ st' → stepM s ⟨st, ⟨rows, row ++ [t]⟩, rest⟩ = ⟨st', ⟨rows, row ++ [timN t lo hi]⟩, rest⟩ →
        ((repGo s n (timN t lo hi) st').2.e ≠ 0 ∧ Ends s ⟨st, ⟨rows, row ++ [t]⟩, rest⟩ (repGo s n (timN t lo hi) st').2) ∨
        ((repGo s n (timN t lo hi) st').2.e = 0 ∧ runF s ⟨st, ⟨rows, row ++ [t]⟩, rest⟩ = runF s ⟨(repGo s n (timN t lo hi) st').2, ⟨rows, row ++ [(repGo s n (timN t lo hi) st').1]⟩, rest⟩ ∧ nrep s (repGo s n (timN t lo hi) st').2) := by
      intro c lo hi st' hc hl hs
      obtain ⟨h1, h2, h3⟩ := isB_lt hc
      have h4 := hl.1
      have hr : runF s ⟨st, ⟨rows, row ++ [t]⟩, rest⟩ = runF s ⟨st', ⟨rows, row ++ [timN t lo hi]⟩, rest⟩ := by rw [runF_go (m := ⟨st, ⟨rows, row ++ [t]⟩, rest⟩) ⟨h1, h2⟩, hs]
      unfold Ends
      rw [hr]
      exact rep_run n (timN t lo hi) st' rows row rest hl.2 (by omega)
    have rep : ∀ lo hi, Lv.rep ⟨rows, row ++ [t]⟩ lo hi = ⟨rows, row ++ [timN t lo hi]⟩ := fun lo hi => by
      unfold Lv.rep
      rw [getLastD_snoc, List.dropLast_concat]
    have tonly : ∀ (a b : T × Sc), a = b → a = b := fun _ _ h => h
    rw [repGo]
    split
    · rename_i hc
      obtain ⟨h1, h2, h3⟩ := isB_lt hc
      refine step _ _ _ _ hc (Le.refl h2) ?_
      simp [stepM, h3, Mc.repeat_, rep]
    split
    · rename_i hc
      obtain ⟨h1, h2, h3⟩ := isB_lt hc
      refine step _ _ _ _ hc (Le.refl h2) ?_
      simp [stepM, h3, Mc.repeat_, rep]
    split
    · rename_i hc
      obtain ⟨h1, h2, h3⟩ := isB_lt hc
      have hs : stepM s ⟨st, ⟨rows, row ++ [t]⟩, rest⟩ = ⟨(timesS s st.adv).2, ⟨rows, row ++ [timN t (timesS s st.adv).1.1 (timesS s st.adv).1.2]⟩, rest⟩ := by
        simp [stepM, h3, rep]
      obtain ⟨e1, e2⟩ := timesR_eq (s := s) st.adv
      by_cases h0 : (timesS s st.adv).2.e = 0
      · have e3 := e2 h0
        rw [e1, e3]
        exact step _ _ _ _ hc (le_times h2) hs
      · rw [e1, repGo_ne _ _ h0]
        refine .inl ⟨h0, ?_⟩
        unfold Ends
        rw [runF_go (m := ⟨st, ⟨rows, row ++ [t]⟩, rest⟩) ⟨h1, h2⟩, hs]
        exact ends_of (s := s) (m := ⟨(timesS s st.adv).2, _, rest⟩) h0 rfl rfl
    split
    · rename_i hc
      obtain ⟨h1, h2, h3⟩ := isB_lt hc
      refine step _ _ _ _ hc (Le.refl h2) ?_
      simp [stepM, h3, Mc.repeat_, rep]
    · rename_i h43 h63 h123 h42
      by_cases h0 : st.e = 0
      · refine .inr ⟨h0, rfl, ?_⟩
        rintro c (rfl | rfl | rfl | rfl)
        · simpa using h42
        · simpa using h43
        · simpa using h63
        · simpa using h123
      · exact .inl ⟨h0, ends_of h0 rfl rfl⟩
variable (s) in
/-- What the reader's row comes to, the machine's does. -/
def Meets (m : Mc) (r : T × Sc) : Prop :=
  (r.2.e ≠ 0 → Ends s m r.2) ∧ (r.2.e = 0 → ∃ rows row, r.1 = Lv.done ⟨rows, row⟩ ∧ runF s m = runF s ⟨r.2, ⟨rows, row⟩, m.rest⟩ ∧ (¬ r.2.at_ < s.size ∨ gb s r.2.at_ = 41))
theorem Meets.back {m m' : Mc} {r : T × Sc} (h : Meets s m' r) (hr : runF s m = runF s m') (he : m'.rest = m.rest) : Meets s m r := by
  unfold Meets Ends at *
  rw [hr, ← he]
  exact h
theorem altGo_ne {st : Sc} (h : st.e ≠ 0) (n : Nat) (rows row : List T) : altGo s (n + 1) rows row st = (Lv.done ⟨rows, row⟩, st) := by
  rw [altGo, if_neg (fun hg => h hg.1.1), isB_ne h, if_neg (by decide)]
theorem alt_run : ∀ (n : Nat) (rows row : List T) (st : Sc) (rest : List Lv), st.at_ ≤ s.size → s.size - st.at_ < n → (row = [] ∨ nrep s st) →
    Meets s ⟨st, ⟨rows, row⟩, rest⟩ (altGo s n rows row st)
  | 0, rows, row, st, rest, h, h', hrow => by omega
  | n + 1, rows, row, st, rest, h, h', hrow => by
    by_cases h0 : st.e = 0
    · rw [altGo]
      split
      · rename_i hg
        obtain ⟨hgo, h41, h124⟩ := hg
        have hlt := hgo.2
        have ha : st.adv.at_ = st.at_ + 1 := rfl
        have hself := isB_self hgo
        split
        · rename_i hbad
          refine ⟨fun _ => ?_, fun h => absurd h (by unfold Sc.fail; rw [if_pos h0]; exact (by decide : (2 : Int) ≠ 0))⟩
          have hs : (stepM s ⟨st, ⟨rows, row⟩, rest⟩).sc = ⟨st.at_ + 1, st.at_, 2⟩ := by
            have hadv : st.adv.fail st.at_ 2 = ⟨st.at_ + 1, st.at_, 2⟩ := by unfold Sc.fail; rw [if_pos (show st.adv.e = 0 from h0)]; rfl
            have hr0 : ∀ c : Int, c = 42 ∨ c = 43 ∨ c = 63 ∨ c = 123 → gb s st.at_ = c → row = [] := fun c hc e => by
              rcases hrow with h | h
              · exact h
              · have := h c hc
                rw [← e, hself] at this
                cases this
            unfold badC at hbad
            simp only [Bool.or_eq_true, beq_iff_eq] at hbad
            rcases hbad with ((((e | e) | e) | e) | e) | e
            · simp [stepM, e, hadv]
            · simp [stepM, e, hadv]
            · have := hr0 42 (by simp) e; subst this; simp [stepM, e, hadv, Mc.repeat_]
            · have := hr0 43 (by simp) e; subst this; simp [stepM, e, hadv, Mc.repeat_]
            · have := hr0 63 (by simp) e; subst this; simp [stepM, e, hadv, Mc.repeat_]
            · have := hr0 123 (by simp) e; subst this; simp [stepM, e, hadv]
          unfold Ends
          rw [runF_go (m := ⟨st, ⟨rows, row⟩, rest⟩) hgo]
          have e1 : st.fail st.at_ 2 = ⟨st.at_, st.at_, 2⟩ := by unfold Sc.fail; rw [if_pos h0]
          rw [e1]
          exact ends_of (st := ⟨st.at_, st.at_, 2⟩) (by rw [hs]; exact two_ne) (by rw [hs]) (by rw [hs])
        · rename_i hbad
          -- behind an atom
          have tail : ∀ (t : T) (st2 : Sc), Le s st.adv.at_ st2 → runF s ⟨st, ⟨rows, row⟩, rest⟩ = runF s ⟨st2, ⟨rows, row ++ [t]⟩, rest⟩ →
              Meets s ⟨st, ⟨rows, row⟩, rest⟩ (altGo s n rows (row ++ [(repGo s (s.size + 1) t st2).1]) (repGo s (s.size + 1) t st2).2) := by
            intro t st2 hl hr
            have h1 := hl.1
            have h2 := repGo_at (s.size + 1) t st2 hl.2
            have h3 := h2.1
            rcases rep_run (s.size + 1) t st2 rows row rest hl.2 (by omega) with ⟨a, b⟩ | ⟨a, b, c⟩
            · obtain ⟨k, rfl⟩ : ∃ k, n = k + 1 := ⟨n - 1, by omega⟩
              rw [altGo_ne a]
              refine ⟨fun _ => ?_, fun h => absurd h a⟩
              unfold Ends at b ⊢
              rw [hr]
              exact b
            · exact (alt_run n rows _ _ rest h2.2 (by omega) (.inr c)).back (hr.trans b) rfl
          split
          · rename_i h40
            have hs : stepM s ⟨st, ⟨rows, row⟩, rest⟩ = ⟨st.adv, ⟨[], []⟩, ⟨rows, row⟩ :: rest⟩ := by simp [stepM, h40]
            have hr := runF_go (m := ⟨st, ⟨rows, row⟩, rest⟩) hgo
            rw [hs] at hr
            have ih := alt_run n [] [] st.adv (⟨rows, row⟩ :: rest) hlt (by omega) (.inl rfl)
            have hat := altGo_at n [] [] st.adv hlt
            have hat1 := hat.1
            obtain ⟨r, hrr⟩ : ∃ r, r = altGo s n [] [] st.adv := ⟨_, rfl⟩
            rw [← hrr] at ih hat hat1 ⊢
            obtain ⟨k, hk⟩ : ∃ k, n = k + 1 := ⟨n - 1, by omega⟩
            by_cases he : r.2.e = 0
            · obtain ⟨rows', row', e1, e2, e3⟩ := ih.2 he
              by_cases hc : isB s r.2 41 = true
              · have hm : mustS s r.2 41 = r.2.adv := by unfold mustS; rw [if_pos hc]
                rw [hm]
                obtain ⟨_, c2, c3⟩ := isB_lt hc
                refine tail r.1 r.2.adv ⟨by show st.adv.at_ ≤ r.2.at_ + 1; omega, c2⟩ ?_
                rw [hr, e2, runF_go (m := ⟨r.2, ⟨rows', row'⟩, _⟩) ⟨he, c2⟩, e1]
                simp [stepM, c3, Lv.put]
              · have hlt2 : ¬ r.2.at_ < s.size := by
                  rcases e3 with e3 | e3
                  · exact e3
                  · intro hl
                    apply hc
                    have := isB_self (s := s) (st := r.2) ⟨he, hl⟩
                    rwa [e3] at this
                have hm : mustS s r.2 41 = ⟨r.2.at_, r.2.at_, 2⟩ := by unfold mustS Sc.fail; rw [if_neg hc, if_pos he]
                have hne : (⟨r.2.at_, r.2.at_, 2⟩ : Sc).e ≠ 0 := two_ne
                rw [hm, repGo_ne _ _ hne, hk, altGo_ne hne]
                refine ⟨fun _ => ?_, fun h => absurd h hne⟩
                unfold Ends
                rw [hr, e2, runF_stop (m := ⟨r.2, ⟨rows', row'⟩, _⟩) (fun hg => hlt2 hg.2)]
                show (Sc.fail r.2 r.2.at_ 2).pl = _ ∧ (Sc.fail r.2 r.2.at_ 2).e = _
                unfold Sc.fail
                rw [if_pos he]
                exact ⟨rfl, rfl⟩
            · rw [must_ne he, repGo_ne _ _ he, hk, altGo_ne he]
              refine ⟨fun _ => ?_, fun h => absurd h he⟩
              have := ih.1 he
              unfold Ends at this ⊢
              rw [hr]
              exact this
          · rename_i h40
            have hb : badC (gb s st.at_) = false := by simpa using hbad
            unfold badC at hb
            simp only [Bool.or_eq_false_iff, beq_eq_false_iff_ne] at hb
            obtain ⟨⟨⟨⟨⟨b1, b2⟩, b3⟩, b4⟩, b5⟩, b6⟩ := hb
            refine tail _ _ (atomE_le hgo _) ?_
            rw [runF_go (m := ⟨st, ⟨rows, row⟩, rest⟩) hgo]
            congr 1
            unfold atomE
            simp only [stepM, h40, h41, h124, b1, b2, b3, b4, b5, b6, if_false, or_self]
            by_cases c91 : gb s st.at_ = 91
            · simp [c91, Lv.put, Mc.put]
            · by_cases c46 : gb s st.at_ = 46
              · simp [c46, Lv.put, Mc.put]
              · by_cases c92 : gb s st.at_ = 92
                · simp [c92, Lv.put, Mc.put]
                · simp [c91, c46, c92, Lv.put, Mc.put]
      · rename_i hg
        split
        · rename_i hc
          obtain ⟨c1, c2, c3⟩ := isB_lt hc
          have ha : st.adv.at_ = st.at_ + 1 := rfl
          refine (alt_run n (rows ++ [oneN 2 row]) [] st.adv rest c2 (by omega) (.inl rfl)).back ?_ rfl
          rw [runF_go (m := ⟨st, ⟨rows, row⟩, rest⟩) ⟨c1, c2⟩]
          simp [stepM, c3, Lv.close]
        · rename_i hc
          refine ⟨fun h => absurd h0 h, fun _ => ⟨rows, row, rfl, rfl, ?_⟩⟩
          by_cases hl : st.at_ < s.size
          · right
            by_cases e : gb s st.at_ = 41
            · exact e
            · exfalso
              apply hg
              refine ⟨⟨h0, hl⟩, e, fun e2 => hc ?_⟩
              rw [← e2]
              exact isB_self ⟨h0, hl⟩
          · exact .inl hl
    · rw [altGo_ne h0]
      exact ⟨fun _ => ends_of h0 rfl rfl, fun h => absurd h h0⟩
variable (s) in
def altF (rows row : List T) (st : Sc) : T × Sc := altGo s (s.size + 1 - st.at_) rows row st
variable (s) in
/-- What the document's reader makes of a text. -/
def refParse : Out :=
  if s.size > 400 then ⟨zN, 0, 3⟩ else
  let r := altF s [] [] ⟨0, 0, 0⟩
  let st := if r.2.e = 0 ∧ r.2.at_ < s.size then r.2.fail r.2.at_ 2 else r.2
  if st.e ≠ 0 then ⟨zN, st.pl, st.e⟩ else if wideT r.1 then ⟨zN, 0, 3⟩ else ⟨r.1, 0, 0⟩
theorem parse_run : runM s (s.size + 1) m0 = runF s m0 := rfl
theorem parse_eq : refParse s = parseS s := by
  unfold refParse parseS
  split
  · rfl
  rw [parse_run]
  have h := alt_run (s := s) (s.size + 1) [] [] ⟨0, 0, 0⟩ [] (Nat.zero_le _) (by show s.size - 0 < _; omega) (.inl rfl)
  have hA : altF s [] [] ⟨0, 0, 0⟩ = altGo s (s.size + 1) [] [] ⟨0, 0, 0⟩ := rfl
  rw [hA]
  obtain ⟨r, hr⟩ : ∃ r, r = altGo s (s.size + 1) [] [] ⟨0, 0, 0⟩ := ⟨_, rfl⟩
  rw [← hr] at h ⊢
  have hm : (⟨⟨0, 0, 0⟩, ⟨[], []⟩, []⟩ : Mc) = m0 := rfl
  rw [hm] at h
  dsimp only
  by_cases he : r.2.e = 0
  · obtain ⟨rows, row, e1, e2, e3⟩ := h.2 he
    have hrest : m0.rest = [] := rfl
    rw [hrest] at e2
    by_cases hl : r.2.at_ < s.size
    · have e4 : gb s r.2.at_ = 41 := by
        rcases e3 with e | e
        · exact absurd hl e
        · exact e
      have hs : stepM s ⟨r.2, ⟨rows, row⟩, []⟩ = ⟨r.2.adv.fail r.2.at_ 2, ⟨rows, row⟩, []⟩ := by simp [stepM, e4]
      have hf : r.2.adv.fail r.2.at_ 2 = ⟨r.2.at_ + 1, r.2.at_, 2⟩ := by unfold Sc.fail; rw [if_pos (show r.2.adv.e = 0 from he)]; rfl
      have hf2 : r.2.fail r.2.at_ 2 = ⟨r.2.at_, r.2.at_, 2⟩ := by unfold Sc.fail; rw [if_pos he]
      have hrun : runF s m0 = ⟨⟨r.2.at_ + 1, r.2.at_, 2⟩, ⟨rows, row⟩, []⟩ := by
        rw [e2, runF_go (m := ⟨r.2, ⟨rows, row⟩, []⟩) ⟨he, hl⟩, hs, hf]
        exact runF_stop fun hg => absurd hg.1 two_ne
      have hif : (if r.2.e = 0 ∧ r.2.at_ < s.size then r.2.fail r.2.at_ 2 else r.2) = ⟨r.2.at_, r.2.at_, 2⟩ := by rw [if_pos ⟨he, hl⟩, hf2]
      rw [hrun, hif]
      rfl
    · have hrun : runF s m0 = ⟨r.2, ⟨rows, row⟩, []⟩ := by
        rw [e2]
        exact runF_stop fun hg => hl hg.2
      have hif : (if r.2.e = 0 ∧ r.2.at_ < s.size then r.2.fail r.2.at_ 2 else r.2) = r.2 := if_neg (fun h => hl h.2)
      have hen : endM ⟨r.2, ⟨rows, row⟩, []⟩ = r.2 := rfl
      have hne : ¬ r.2.e ≠ 0 := fun h => h he
      rw [hrun, hif, hen, if_neg hne, if_neg hne, e1]
  · obtain ⟨p1, p2⟩ := h.1 he
    have hif : (if r.2.e = 0 ∧ r.2.at_ < s.size then r.2.fail r.2.at_ 2 else r.2) = r.2 := if_neg (fun h => he h.1)
    rw [hif, if_pos he, if_pos (by rw [p2]; exact he), p1, p2]
end Go.Proofs.Ytmkcbbamfkafmaa.P
/- Two texts, of which one holds the other: the scanner and the machine go alike on both. -/
namespace Go.Proofs.Ytmkcbbamfkafmaa.P
open Go.RowKit Go.Proofs.Ytmkcbbamfkafmaa
set_option linter.unusedVariables false
set_option linter.unusedSimpArgs false
/-- The text b has the text a from k on. -/
structure Ag (a b : ByteArray) (k : Nat) : Prop where
  sz : a.size + k ≤ b.size
  gb : ∀ i, i < a.size → gb b (i + k) = gb a i
/-- An error that settles it: a's run is over at its end, or a limit is told, or both have failed before. -/
def Bad (n k : Nat) (x y : Sc) : Prop := (x.e = 2 ∧ x.pl = (n : Int)) ∨ x.e = 3 ∨ (x.e ≠ 0 ∧ y.e ≠ 0 ∧ ¬ (y.e = 2 ∧ y.pl = (n : Int) + k))
theorem Bad.ne {n k : Nat} {x y : Sc} (h : Bad n k x y) : x.e ≠ 0 := by
  rcases h with h | h | h
  · rw [h.1]; decide
  · rw [h]; decide
  · exact h.1
theorem Bad.mv {n k : Nat} {x y x' y' : Sc} (h : Bad n k x y) (h1 : x.e ≠ 0 → x' = x) (h2 : y.e ≠ 0 → y' = y) : Bad n k x' y' := by
  have hx := h1 h.ne
  subst hx
  rcases h with h | h | h
  · exact .inl h
  · exact .inr (.inl h)
  · rw [h2 h.2.1]; exact .inr (.inr h)
/-- The same place in both. -/
def Eqs (k : Nat) (x y : Sc) : Prop := x.e = 0 ∧ y.e = 0 ∧ y.at_ = x.at_ + k
def StrV {V : Type} (n k : Nat) (r r' : V × Sc) : Prop := (r.1 = r'.1 ∧ Eqs k r.2 r'.2 ∧ r.2.at_ ≤ n) ∨ Bad n k r.2 r'.2
def WkV {V : Type} (n k : Nat) (r r' : V × Sc) : Prop := (r.1 = r'.1 ∧ Eqs k r.2 r'.2 ∧ r.2.at_ < n) ∨ (r.2.e = 0 ∧ r.2.at_ = n) ∨ Bad n k r.2 r'.2
theorem fail_ok {st : Sc} (h : st.e = 0) (p e : Int) : st.fail p e = ⟨st.at_, p, e⟩ := by unfold Sc.fail; rw [if_pos h]
theorem digit_ne {s : ByteArray} {st : Sc} (h : st.e ≠ 0) : digitS s st = (0, st) := by unfold digitS; rw [if_neg (fun x => h x.1), fail_ne h]
theorem item_ne {s : ByteArray} {st : Sc} (h : st.e ≠ 0) : itemS s st = (0, st) := by
  unfold itemS
  rw [isB_ne h, if_neg (by decide), if_neg (fun x => h x.1), fail_ne h]
theorem items_ne {s : ByteArray} {st : Sc} (h : st.e ≠ 0) : itemsS s st = ((0, 0), st) := by
  unfold itemsS
  rw [item_ne h]
  dsimp only
  rw [isB_ne h, if_neg (by decide)]
theorem setGo_ne {s : ByteArray} {st : Sc} (h : st.e ≠ 0) (n : Nat) (f : Nat → Bool) : setGo s n f st = (f, st) := by
  cases n with
  | zero => rfl
  | succ n => rw [setGo, if_neg h]
theorem may_ne {s : ByteArray} {st : Sc} (h : st.e ≠ 0) (c : Int) : mayS s st c = st := by unfold mayS; rw [isB_ne h, if_neg (by decide)]
section
variable {a b : ByteArray} {k : Nat} (H : Ag a b k)
/-- Both fail, ahead of the end. -/
theorem bad_both {n k : Nat} {x y : Sc} (h : Eqs k x y) (p : Int) (hp : p ≠ n) : Bad n k (x.fail p 2) (y.fail (p + k) 2) := by
  rw [fail_ok h.1, fail_ok h.2.1]
  exact .inr (.inr ⟨two_ne, two_ne, fun e => hp (by have := e.2; dsimp only at this; omega)⟩)
theorem bad_end {n k : Nat} {x y : Sc} (h : x.e = 0) (hn : x.at_ = n) : Bad n k (x.fail x.at_ 2) y := by
  rw [fail_ok h, hn]
  exact .inl ⟨rfl, rfl⟩
include H
theorem isB_ag {x y : Sc} (h : Eqs k x y) (hn : x.at_ < a.size) (c : Int) : isB b y c = isB a x c := by
  obtain ⟨h1, h2, h3⟩ := h
  have := H.sz
  unfold isB
  rw [h1, h2, h3, H.gb _ hn]
  have e1 : decide (x.at_ < a.size) = true := decide_eq_true hn
  have e2 : decide (x.at_ + k < b.size) = true := decide_eq_true (by omega)
  rw [e1, e2]
omit H in
theorem isB_end {x : Sc} (hn : x.at_ = a.size) (c : Int) : isB a x c = false := by
  unfold isB
  have e1 : decide (x.at_ < a.size) = false := decide_eq_false (by omega)
  rw [e1]; simp
omit H in
theorem Eqs.adv {x y : Sc} (h : Eqs k x y) : Eqs k x.adv y.adv := ⟨h.1, h.2.1, by show y.at_ + 1 = x.at_ + 1 + k; have := h.2.2; omega⟩
theorem digit_str {x y : Sc} (h : Eqs k x y) (hn : x.at_ ≤ a.size) : StrV a.size k (digitS a x) (digitS b y) := by
  have hs := H.sz
  obtain ⟨h1, h2, h3⟩ := id h
  unfold digitS
  by_cases hl : x.at_ < a.size
  · rw [h3, H.gb _ hl]
    by_cases hx : 0 ≤ hexI (gb a x.at_)
    · rw [if_pos ⟨h1, hl, hx⟩, if_pos ⟨h2, by omega, hx⟩]
      exact .inl ⟨rfl, h.adv, hl⟩
    · rw [if_neg (fun e => hx e.2.2), if_neg (fun e => hx e.2.2)]
      refine .inr ?_
      have := bad_both (n := a.size) h x.at_ (by omega)
      rw [show ((x.at_ + k : Nat) : Int) = (x.at_ : Int) + k by omega]
      exact this
  · rw [if_neg (fun e => hl e.2.1)]
    exact .inr (bad_end h1 (by omega))
omit H in
theorem digit_bad {n : Nat} {x y : Sc} (h : Bad n k x y) : Bad n k (digitS a x).2 (digitS b y).2 := h.mv (fun e => by rw [digit_ne e]) (fun e => by rw [digit_ne e])
theorem escape_str {x y : Sc} (h : Eqs k x y) (hn : x.at_ ≤ a.size) : StrV a.size k (escapeS a x) (escapeS b y) := by
  have hs := H.sz
  obtain ⟨h1, h2, h3⟩ := id h
  unfold escapeS
  by_cases hl : x.at_ < a.size
  · rw [isB_ag H h hl, isB_ag H h hl, isB_ag H h hl]
    split
    · exact .inl ⟨rfl, h.adv, hl⟩
    split
    · exact .inl ⟨rfl, h.adv, hl⟩
    split
    · have d1 := digit_str H (x := x.adv) (y := y.adv) h.adv hl
      rcases d1 with ⟨e1, e2, e3⟩ | d1
      · have d2 := digit_str H e2 e3
        rcases d2 with ⟨f1, f2, f3⟩ | d2
        · exact .inl ⟨by dsimp only; rw [e1, f1], f2, f3⟩
        · exact .inr d2
      · exact .inr (digit_bad d1)
    rw [h3, H.gb _ hl]
    by_cases hc : escC (gb a x.at_) = true
    · rw [if_pos ⟨hl, hc⟩, if_pos ⟨by omega, hc⟩]
      exact .inl ⟨rfl, h.adv, hl⟩
    · rw [if_neg (fun e => hc e.2), if_neg (fun e => hc e.2)]
      refine .inr ?_
      have := bad_both (n := a.size) h x.at_ (by omega)
      rw [show ((x.at_ + k : Nat) : Int) = (x.at_ : Int) + k by omega]
      exact this
  · have he : x.at_ = a.size := by omega
    rw [isB_end he, isB_end he, isB_end he, if_neg (by decide), if_neg (by decide), if_neg (by decide), if_neg (fun e => hl e.1)]
    exact .inr (bad_end h1 he)
theorem item_str {x y : Sc} (h : Eqs k x y) (hn : x.at_ ≤ a.size) : StrV a.size k (itemS a x) (itemS b y) := by
  have hs := H.sz
  obtain ⟨h1, h2, h3⟩ := id h
  unfold itemS
  by_cases hl : x.at_ < a.size
  · rw [isB_ag H h hl]
    split
    · exact escape_str H h.adv hl
    rw [h3, H.gb _ hl]
    by_cases hc : inC (gb a x.at_) = false
    · rw [if_pos ⟨h1, hl, hc⟩, if_pos ⟨h2, by omega, hc⟩]
      exact .inl ⟨rfl, h.adv, hl⟩
    · rw [if_neg (fun e => hc e.2.2), if_neg (fun e => hc e.2.2)]
      refine .inr ?_
      have := bad_both (n := a.size) h x.at_ (by omega)
      rw [show ((x.at_ + k : Nat) : Int) = (x.at_ : Int) + k by omega]
      exact this
  · have he : x.at_ = a.size := by omega
    rw [isB_end he, if_neg (by decide), if_neg (fun e => hl e.2.1)]
    exact .inr (bad_end h1 he)
omit H in
theorem items_one {x : Sc} (h : isB a (itemS a x).2 45 = false) : itemsS a x = (((itemS a x).1, (itemS a x).1), (itemS a x).2) := by
  unfold itemsS
  rw [h, if_neg (by decide)]
omit H in
theorem items_bad {n : Nat} {x y : Sc} (h : Bad n k (itemS a x).2 (itemS b y).2) : Bad n k (itemsS a x).2 (itemsS b y).2 :=
  h.mv (fun e => by rw [items_one (isB_ne e _)]) (fun e => by rw [items_one (isB_ne e _)])
omit H in
theorem fail_mv {n : Nat} {x y : Sc} (h : Bad n k x y) {P Q : Prop} [Decidable P] [Decidable Q] (p q : Int) : Bad n k (if P then x.fail p 2 else x) (if Q then y.fail q 2 else y) :=
  h.mv (fun e => by rw [fail_ne e]; split <;> rfl) (fun e => by rw [fail_ne e]; split <;> rfl)
theorem items_wk {x y : Sc} (h : Eqs k x y) (hn : x.at_ ≤ a.size) : WkV a.size k (itemsS a x) (itemsS b y) := by
  rcases item_str H h hn with ⟨e1, e2, e3⟩ | d
  · by_cases hl : (itemS a x).2.at_ < a.size
    · have hb := isB_ag H e2 hl 45
      unfold itemsS
      rw [hb]
      split
      · have d := item_str H e2.adv (show (itemS a x).2.adv.at_ ≤ a.size from hl)
        have ek : ((itemS b y).2.at_ : Int) = ((itemS a x).2.at_ : Int) + k := by have := e2.2.2; omega
        rw [ek]
        rcases d with ⟨f1, f2, f3⟩ | d
        · try dsimp only
          rw [← e1, ← f1]
          by_cases hgt : (itemS a x).1 > (itemS a (itemS a x).2.adv).1
          · rw [if_pos hgt, if_pos hgt]
            exact .inr (.inr (bad_both f2 _ (by omega)))
          · rw [if_neg hgt, if_neg hgt]
            by_cases hl2 : (itemS a (itemS a x).2.adv).2.at_ < a.size
            · exact .inl ⟨rfl, f2, hl2⟩
            · exact .inr (.inl ⟨f2.1, by first | omega | (dsimp only; omega)⟩)
        · exact .inr (.inr (fail_mv d _ _))
      · exact .inl ⟨by dsimp only; rw [e1], e2, hl⟩
    · have he : (itemS a x).2.at_ = a.size := by omega
      rw [items_one (isB_end he _)]
      exact .inr (.inl ⟨e2.1, he⟩)
  · exact .inr (.inr (items_bad d))
omit H in
/-- What has to be read isn't there. -/
theorem items_end {x y : Sc} (h : x.e = 0) (hn : x.at_ = a.size) : Bad a.size k (itemsS a x).2 (itemsS b y).2 := by
  have hi : itemS a x = (0, x.fail x.at_ 2) := by
    unfold itemS
    rw [isB_end hn, if_neg (by decide), if_neg (fun e => by omega)]
  have hb : Bad a.size k (itemS a x).2 y := by rw [hi]; exact bad_end h hn
  have hx : (itemsS a x).2 = (itemS a x).2 := by rw [items_one (isB_ne hb.ne _)]
  rw [hx]
  rw [hi, fail_ok h, hn]
  exact .inl ⟨rfl, rfl⟩
omit H in
theorem itemP {x : Sc} (h : x.at_ ≤ a.size) (he : (itemS a x).2.e = 0) : x.at_ < (itemS a x).2.at_ ∧ x.e = 0 := by
  unfold itemS at he ⊢
  split at he
  · rename_i hb
    rw [if_pos hb]
    have h1 := isB_lt hb
    have h2 := le_escape (s := a) (st := x.adv) h1.2.1
    exact ⟨by have := h2.1; have : x.adv.at_ = x.at_ + 1 := rfl; omega, h1.1⟩
  · rename_i hb
    rw [if_neg hb]
    split at he
    · rename_i h1
      rw [if_pos h1]
      exact ⟨Nat.lt_succ_self _, h1.1⟩
    · exfalso
      unfold Sc.fail at he
      split at he
      · cases he
      · contradiction
omit H in
theorem itemsP {x : Sc} (h : x.at_ ≤ a.size) (he : (itemsS a x).2.e = 0) : x.at_ < (itemsS a x).2.at_ := by
  have h0 := le_item h
  unfold itemsS at he ⊢
  split at he
  · rename_i hb
    rw [if_pos hb]
    have h1 := isB_lt hb
    have h2 := itemP h h1.1
    have h3 := le_item (s := a) (st := (itemS a x).2.adv) h1.2.1
    have h4 : (itemS a x).2.adv.at_ = (itemS a x).2.at_ + 1 := rfl
    have h5 := h3.1
    dsimp only
    split
    · rw [fail_at]; omega
    · omega
  · rename_i hb
    rw [if_neg hb]
    exact (itemP h he).1
theorem setGo_str : ∀ (n1 n2 : Nat) (f : Nat → Bool) (f' : Nat → Bool) (x y : Sc), y.at_ ≤ b.size → a.size - x.at_ < n1 → b.size - y.at_ < n2 →
    ((f = f' ∧ Eqs k x y ∧ x.at_ < a.size) ∨ (x.e = 0 ∧ x.at_ = a.size) ∨ Bad a.size k x y) → StrV a.size k (setGo a n1 f x) (setGo b n2 f' y)
  | 0, n2, f, f', x, y, hy, h1, h2, h => by omega
  | n1 + 1, n2, f, f', x, y, hy, h1, h2, h => by
    rcases h with ⟨rfl, he, hl⟩ | ⟨he, hn⟩ | h
    · obtain ⟨n2, rfl⟩ : ∃ m, n2 = m + 1 := ⟨n2 - 1, by omega⟩
      rw [setGo, setGo, if_pos he.1, if_pos he.2.1, isB_ag H he hl]
      split
      · exact .inl ⟨rfl, he.adv, hl⟩
      · have hw := items_wk H he (by omega)
        have ly := le_items (s := b) (st := y) hy
        have ly2 := ly.2
        have lx2 := (le_items (s := a) (st := x) (by omega)).2
        by_cases hb : (itemsS a x).2.e = 0
        · have hx := itemsP (a := a) (x := x) (by omega) hb
          by_cases hb2 : (itemsS b y).2.e = 0
          · have hy2 := itemsP (a := b) (x := y) hy hb2
            refine setGo_str n1 n2 _ _ _ _ ly.2 (by omega) (by omega) ?_
            rcases hw with ⟨e1, e2, e3⟩ | hw | hw
            · exact .inl ⟨by rw [e1], e2, e3⟩
            · exact .inr (.inl hw)
            · exact .inr (.inr hw)
          · rcases hw with ⟨e1, e2, e3⟩ | hw | hw
            · exact absurd e2.2.1 hb2
            · cases n1 with
              | zero => omega
              | succ n1 =>
                refine .inr ?_
                rw [setGo, if_pos hb, isB_end hw.2, if_neg (by decide)]
                have he2 := items_end (y := (itemsS b y).2) (b := b) (k := k) hb hw.2
                rw [setGo_ne he2.ne]
                exact he2.mv (fun _ => rfl) (fun e => by rw [setGo_ne hb2]; exact (by rw [items_ne hb2]))
            · exact absurd hb hw.ne
        · rcases hw with ⟨e1, e2, e3⟩ | hw | hw
          · exact absurd e2.1 hb
          · exact absurd hw.1 hb
          · refine .inr ?_
            rw [setGo_ne hb]
            exact hw.mv (fun _ => rfl) (fun e => by rw [setGo_ne e])
    · refine .inr ?_
      rw [setGo, if_pos he, isB_end hn, if_neg (by decide)]
      have he2 := items_end (y := y) (b := b) (k := k) he hn
      rw [setGo_ne he2.ne]
      have h3 : (itemsS a x).2.e = 2 ∧ (itemsS a x).2.pl = (a.size : Int) := by
        have hi : itemS a x = (0, x.fail x.at_ 2) := by
          unfold itemS
          rw [isB_end hn, if_neg (by decide), if_neg (fun e => by omega)]
        have hx : (itemsS a x).2 = (itemS a x).2 := by
          rw [items_one (isB_ne ?_ _)]
          rw [hi, fail_ok he]; exact two_ne
        rw [hx, hi, fail_ok he, hn]
        exact ⟨rfl, rfl⟩
      exact .inl h3
    · refine .inr ?_
      rw [setGo_ne h.ne]
      exact h.mv (fun _ => rfl) (fun e => by rw [setGo_ne e])
theorem set_str {x y : Sc} (h : Eqs k x y) (hn : x.at_ ≤ a.size) (hy : y.at_ ≤ b.size) : StrV a.size k (setS a x) (setS b y) := by
  unfold setS
  by_cases hl : x.at_ < a.size
  · have hm : Eqs k (mayS a x 94) (mayS b y 94) ∧ (mayS a x 94).at_ ≤ a.size := by
      unfold mayS
      rw [isB_ag H h hl]
      split
      · exact ⟨h.adv, hl⟩
      · exact ⟨h, hn⟩
    have ly := (le_may (s := b) hy 94).2
    rw [isB_ag H h hl]
    have hw := items_wk H hm.1 hm.2
    have li := (le_items (s := b) ly).2
    have hg := setGo_str H (a.size + 3) (b.size + 3) (inR (itemsS a (mayS a x 94)).1.1 (itemsS a (mayS a x 94)).1.2) (inR (itemsS b (mayS b y 94)).1.1 (itemsS b (mayS b y 94)).1.2) _ _ li (by omega) (by omega) (by
      rcases hw with ⟨e1, e2, e3⟩ | hw | hw
      · exact .inl ⟨by rw [e1], e2, e3⟩
      · exact .inr (.inl hw)
      · exact .inr (.inr hw))
    rcases hg with ⟨e1, e2, e3⟩ | hg
    · exact .inl ⟨by dsimp only; rw [e1], e2, e3⟩
    · exact .inr hg
  · have he : x.at_ = a.size := by omega
    have hm : mayS a x 94 = x := by unfold mayS; rw [isB_end he, if_neg (by decide)]
    refine .inr ?_
    dsimp only
    rw [hm]
    have hb := items_end (y := y) (b := b) (k := k) h.1 he
    rw [setGo_ne hb.ne]
    have hb2 := items_end (y := mayS b y 94) (b := b) (k := k) h.1 he
    exact hb2.mv (fun _ => rfl) (fun e => by rw [setGo_ne e])
theorem numGo_ag : ∀ (k1 k2 : Nat) (v : Int) (i : Nat), i ≤ a.size → a.size - i ≤ k1 → b.size - (i + k) ≤ k2 →
    ((numGo a k1 v i).2 < a.size → numGo b k2 v (i + k) = ((numGo a k1 v i).1, (numGo a k1 v i).2 + k))
  | 0, k2, v, i, hi, h1, h2, hlt => by
    rw [numGo] at hlt
    dsimp only at hlt
    omega
  | k1 + 1, k2, v, i, hi, h1, h2, hlt => by
    have hs := H.sz
    rw [numGo] at hlt ⊢
    by_cases hd : digC a i
    · rw [if_pos hd] at hlt ⊢
      have hd1 := hd.1
      obtain ⟨k2, rfl⟩ : ∃ m, k2 = m + 1 := ⟨k2 - 1, by omega⟩
      have hd2 : digC b (i + k) := by unfold digC; rw [H.gb _ hd1]; exact ⟨by omega, hd.2⟩
      rw [numGo, if_pos hd2, H.gb _ hd1]
      have := numGo_ag k1 k2 (min (10 * v + (gb a i - 48)) 2147483648) (i + 1) (by omega) (by omega) (by omega) hlt
      rw [show i + 1 + k = i + k + 1 by omega] at this
      exact this
    · rw [if_neg hd] at hlt ⊢
      have hd2 : ¬ digC b (i + k) := fun e => hd (by have := e.2; rw [H.gb _ hlt] at this; exact ⟨hlt, this⟩)
      cases k2 with
      | zero => rfl
      | succ k2 => rw [numGo, if_neg hd2]
theorem number_wk {x y : Sc} (h : Eqs k x y) (hn : x.at_ ≤ a.size) : WkV a.size k (numberS a x) (numberS b y) := by
  obtain ⟨h1, h2, h3⟩ := id h
  have hs := H.sz
  have hg := numGo_ag H (a.size - x.at_) (b.size - y.at_) 0 x.at_ hn (by omega) (by omega)
  have ha := numGo_at (s := a) (a.size - x.at_) 0 x.at_ hn
  unfold numberS
  rw [if_pos h1, if_pos h2]
  rw [← h3] at hg
  by_cases hl : (numGo a (a.size - x.at_) 0 x.at_).2 < a.size
  · rw [hg hl]
    dsimp only
    rw [h3]
    by_cases he : (numGo a (a.size - x.at_) 0 x.at_).2 = x.at_
    · rw [if_pos he, if_pos (by omega)]
      refine .inr (.inr (.inr (.inr ⟨two_ne, two_ne, fun e => ?_⟩)))
      have := e.2
      dsimp only at this
      omega
    · rw [if_neg he, if_neg (show ¬ (numGo a (a.size - x.at_) 0 x.at_).2 + k = x.at_ + k by omega)]
      by_cases hm : (numGo a (a.size - x.at_) 0 x.at_).1 > 2147483647
      · rw [if_pos hm, if_pos hm]
        exact .inr (.inr (.inr (.inl rfl)))
      · rw [if_neg hm, if_neg hm]
        exact .inl ⟨rfl, ⟨rfl, rfl, rfl⟩, hl⟩
  · have he : (numGo a (a.size - x.at_) 0 x.at_).2 = a.size := by omega
    by_cases hx : x.at_ = a.size
    · refine .inr (.inr (.inl ?_))
      dsimp only
      rw [if_pos (by omega)]
      exact ⟨rfl, by first | omega | (dsimp only; omega)⟩
    · try dsimp only
      rw [if_neg (show ¬ (numGo a (a.size - x.at_) 0 x.at_).2 = x.at_ by omega)]
      split
      · exact .inr (.inr (.inr (.inl rfl)))
      · exact .inr (.inl ⟨rfl, he⟩)
omit H in
theorem number_bad {n : Nat} {x y : Sc} (h : Bad n k x y) : Bad n k (numberS a x).2 (numberS b y).2 := h.mv (fun e => by rw [number_ne e]) (fun e => by rw [number_ne e])
omit H in
theorem number_end {x y : Sc} (h : x.e = 0) (hn : x.at_ = a.size) : Bad a.size k (numberS a x).2 y := by
  unfold numberS
  rw [if_pos h, hn, Nat.sub_self]
  refine .inl ?_
  dsimp only
  rw [numGo, if_pos rfl]
  exact ⟨rfl, rfl⟩
theorem times2_wk {r r' : Int × Sc} (h : WkV a.size k r r') : WkV a.size k (times2 a r.1 r.2) (times2 b r'.1 r'.2) := by
  obtain ⟨v, x⟩ := r
  obtain ⟨v', y⟩ := r'
  dsimp only
  rcases h with ⟨e1, e2, e3⟩ | ⟨h0, hn⟩ | h
  · dsimp only at e1 e2 e3
    subst e1
    unfold times2
    rw [isB_ag H e2 e3]
    split
    · by_cases hl : x.at_ + 1 < a.size
      · rw [isB_ag H e2.adv hl]
        split
        · exact .inl ⟨rfl, e2.adv, hl⟩
        · exact number_wk H e2.adv e3
      · have he : x.adv.at_ = a.size := by show x.at_ + 1 = _; omega
        rw [isB_end he, if_neg (by decide)]
        exact .inr (.inr ((number_end (y := y) (k := k) (show x.adv.e = 0 from e2.1) he).mv (fun _ => rfl) (fun e => absurd e2.2.1 e)))
    · exact .inl ⟨rfl, e2, e3⟩
  · dsimp only at h0 hn
    have : times2 a v x = (v, x) := by unfold times2; rw [isB_end hn, if_neg (by decide)]
    rw [this]
    exact .inr (.inl ⟨h0, hn⟩)
  · exact .inr (.inr (h.mv (fun e => by rw [times2_ne e]) (fun e => by rw [times2_ne e])))
theorem must_str {r r' : Int × Sc} (h : WkV a.size k r r') : StrV a.size k (r.1, mustS a r.2 125) (r'.1, mustS b r'.2 125) := by
  obtain ⟨v, x⟩ := r
  obtain ⟨v', y⟩ := r'
  dsimp only
  rcases h with ⟨e1, e2, e3⟩ | ⟨h0, hn⟩ | h
  · dsimp only at e1 e2 e3
    subst e1
    unfold mustS
    rw [isB_ag H e2 e3]
    split
    · exact .inl ⟨rfl, e2.adv, e3⟩
    · refine .inr ?_
      have := bad_both (n := a.size) e2 x.at_ (by omega)
      dsimp only
      rw [e2.2.2, show ((x.at_ + k : Nat) : Int) = (x.at_ : Int) + k by omega]
      exact this
  · dsimp only at h0 hn
    refine .inr ?_
    dsimp only
    unfold mustS
    rw [isB_end hn, if_neg (by decide), fail_ok h0, hn]
    exact .inl ⟨rfl, rfl⟩
  · exact .inr (h.mv (fun e => by rw [must_ne e]) (fun e => by rw [must_ne e]))
/-- A value that is told beside. -/
theorem times_str {x y : Sc} (h : Eqs k x y) (hn : x.at_ ≤ a.size) : StrV a.size k (timesS a x) (timesS b y) := by
  have h1 := number_wk H h hn
  have h2 := times2_wk H h1
  have h3 := must_str H h2
  have hp : ((y.at_ : Int) - 1) = ((x.at_ : Int) - 1) + k := by have := h.2.2; omega
  unfold timesS
  dsimp only
  rw [hp]
  rcases h3 with ⟨e1, e2, e3⟩ | h3
  · dsimp only at e1 e2 e3
    have hv : (numberS a x).1 = (numberS b y).1 := by
      rcases h1 with e | e | e
      · exact e.1
      · exfalso
        have ht : times2 a (numberS a x).1 (numberS a x).2 = ((numberS a x).1, (numberS a x).2) := by unfold times2; rw [isB_end e.2, if_neg (by decide)]
        rw [ht] at e2
        dsimp only at e2
        have := e2.1
        unfold mustS at this
        rw [isB_end e.2, if_neg (by decide), fail_ok e.1] at this
        exact two_ne this
      · exfalso
        have ht := times2_ne (s := a) e.ne (numberS a x).1
        rw [ht] at e2
        dsimp only at e2
        rw [must_ne e.ne] at e2
        exact e.ne e2.1
    rw [← e1, ← hv]
    rw [← hv] at e2
    split
    · exact .inr (bad_both e2 _ (by omega))
    · exact .inl ⟨rfl, e2, e3⟩
  · exact .inr (fail_mv h3 _ _)
end
end Go.Proofs.Ytmkcbbamfkafmaa.P
/- Two texts, of which one holds the other: the machine goes alike on both; what stands between brackets. -/
namespace Go.Proofs.Ytmkcbbamfkafmaa.P
open Go.RowKit Go.Proofs.Ytmkcbbamfkafmaa
set_option linter.unusedVariables false
set_option linter.unusedSimpArgs false
/-- The machines stand alike; b's has more levels below. -/
structure Alk (n k : Nat) (base : List Lv) (m m' : Mc) : Prop where
  eqs : Eqs k m.sc m'.sc
  le : m.sc.at_ ≤ n
  top : m'.top = m.top
  rest : m'.rest = m.rest ++ base
def BadM (n k : Nat) (base : List Lv) (m m' : Mc) : Prop := Bad n k m.sc m'.sc ∨ (m.sc.e ≠ 0 ∧ base ≠ [])
theorem BadM.ne {n k : Nat} {base : List Lv} {m m' : Mc} (h : BadM n k base m m') : m.sc.e ≠ 0 := by
  rcases h with h | h
  · exact h.ne
  · exact h.1
section
variable {a b : ByteArray} {k : Nat} (H : Ag a b k) {base : List Lv}
include H
/-- One step, of both. -/
theorem step_str {m m' : Mc} (h : Alk a.size k base m m') (hl : m.sc.at_ < a.size) (hy : m'.sc.at_ < b.size) :
    Alk a.size k base (stepM a m) (stepM b m') ∨ BadM a.size k base (stepM a m) (stepM b m') := by
  obtain ⟨⟨at_, pl, e⟩, top, rest⟩ := m
  obtain ⟨⟨at', pl', e'⟩, top', rest'⟩ := m'
  obtain ⟨⟨he, he', hat⟩, hle, htop, hrest⟩ := h
  dsimp only at he he' hat hle htop hrest hl hy
  subst he he' htop hrest
  have hgb : gb b at' = gb a at_ := by rw [hat]; exact H.gb _ hl
  have hE : Eqs k (⟨at_ + 1, pl, 0⟩ : Sc) ⟨at' + 1, pl', 0⟩ := ⟨rfl, rfl, by dsimp only; omega⟩
  have hf : ∀ (t : Lv) (r r' : List Lv), BadM a.size k base ⟨⟨at_ + 1, at_, 2⟩, t, r⟩ ⟨⟨at' + 1, at', 2⟩, t, r'⟩ := fun t r r' => .inl (.inr (.inr ⟨two_ne, two_ne, fun e => by have := e.2; dsimp only at this; omega⟩))
  have hg : ∀ (t : Lv) (r : List Lv), Alk a.size k base ⟨⟨at_ + 1, pl, 0⟩, t, r⟩ ⟨⟨at' + 1, pl', 0⟩, t, r ++ base⟩ := fun t r => ⟨hE, hl, rfl, rfl⟩
  have hi : ∀ {c : Prop} [Decidable c] {x x' y y' : Mc}, (c → Alk a.size k base x y ∨ BadM a.size k base x y) → (¬ c → Alk a.size k base x' y' ∨ BadM a.size k base x' y') → Alk a.size k base (if c then x else x') (if c then y else y') ∨ BadM a.size k base (if c then x else x') (if c then y else y') := fun {c} _ {x x' y y'} h1 h2 => by
    by_cases hc : c
    · rw [if_pos hc, if_pos hc]; exact h1 hc
    · rw [if_neg hc, if_neg hc]; exact h2 hc
  unfold stepM Mc.repeat_ Mc.put Sc.adv Sc.fail
  dsimp only
  rw [hgb, if_pos (show (0 : Int) = 0 from rfl), if_pos (show (0 : Int) = 0 from rfl)]
  refine hi (fun _ => .inl ⟨hE, hl, rfl, rfl⟩) fun _ => hi (fun _ => ?_) fun _ => hi (fun _ => .inl (hg _ _)) fun _ => hi (fun _ => hi (fun _ => .inr (hf _ _ _)) fun _ => .inl (hg _ _)) fun _ =>
    hi (fun _ => hi (fun _ => .inr (hf _ _ _)) fun _ => .inl (hg _ _)) fun _ => hi (fun _ => hi (fun _ => .inr (hf _ _ _)) fun _ => .inl (hg _ _)) fun _ =>
    hi (fun _ => hi (fun _ => .inr (hf _ _ _)) fun _ => ?_) fun _ => hi (fun _ => .inl (hg _ _)) fun _ => hi (fun _ => ?_) fun _ => hi (fun _ => ?_) fun _ => hi (fun _ => .inr (hf _ _ _)) fun _ => .inl (hg _ _)
  · cases rest with
    | nil =>
      cases base with
      | nil => exact .inr (hf _ _ _)
      | cons p r => exact .inr (.inr ⟨two_ne, by simp⟩)
    | cons p r => exact .inl (hg _ _)
  · rcases times_str H hE hl with ⟨e1, e2, e3⟩ | d
    · rw [← e1]; exact .inl ⟨e2, e3, rfl, rfl⟩
    · exact .inr (.inl d)
  · rcases set_str H hE hl (by dsimp only; omega) with ⟨e1, e2, e3⟩ | d
    · rw [← e1]; exact .inl ⟨e2, e3, rfl, rfl⟩
    · exact .inr (.inl d)
  · rcases escape_str H hE hl with ⟨e1, e2, e3⟩ | d
    · rw [← e1]; exact .inl ⟨e2, e3, rfl, rfl⟩
    · exact .inr (.inl d)
/-- The runs. -/
theorem run_str : ∀ (d : Nat) (m m' : Mc), a.size - m.sc.at_ ≤ d → Alk a.size k base m m' → ∃ m1, runF b m' = runF b m1 ∧ ((Alk a.size k base (runF a m) m1 ∧ (runF a m).sc.at_ = a.size) ∨ BadM a.size k base (runF a m) m1)
  | d, m, m', hd, h => by
    have hs := H.sz
    by_cases hl : m.sc.at_ < a.size
    · have hga : goes a m.sc := ⟨h.eqs.1, hl⟩
      have hgb : goes b m'.sc := ⟨h.eqs.2.1, by have := h.eqs.2.2; omega⟩
      rw [runF_go hga, runF_go hgb]
      rcases step_str H h hl hgb.2 with h1 | h1
      · cases d with
        | zero => omega
        | succ d =>
          have := (step_at hga).1
          exact run_str d _ _ (by omega) h1
      · rw [runF_stop (s := a) (m := stepM a m) (fun g => h1.ne g.1)]
        exact ⟨_, rfl, .inr h1⟩
    · have : m.sc.at_ = a.size := by have := h.le; omega
      rw [runF_stop (s := a) (fun g => hl g.2)]
      exact ⟨m', rfl, .inl ⟨h, this⟩⟩
end
theorem parse_f (s : ByteArray) (hs : s.size ≤ 400) : parseS s = if (endM (runF s m0)).e ≠ 0 then ⟨zN, (endM (runF s m0)).pl, (endM (runF s m0)).e⟩ else if wideT (runF s m0).top.done then ⟨zN, 0, 3⟩ else ⟨(runF s m0).top.done, 0, 0⟩ := by
  have hr : runM s (s.size + 1) m0 = runF s m0 := rfl
  unfold parseS
  rw [if_neg (by omega)]
  dsimp only
  rw [hr]
/-- A text that is an expression: how the machine ends. -/
theorem parse_ok {s : ByteArray} (h : (parseS s).e = 0) : s.size ≤ 400 ∧ (runF s m0).sc.e = 0 ∧ (runF s m0).rest = [] ∧ (runF s m0).top.done = (parseS s).t ∧ ¬ wideT (parseS s).t ∧ parseS s = ⟨(parseS s).t, 0, 0⟩ := by
  have hs : s.size ≤ 400 := by
    by_cases hs : s.size ≤ 400
    · exact hs
    · unfold parseS at h
      rw [if_pos (by omega)] at h
      cases h
  rw [parse_f s hs] at h
  have hp := parse_f s hs
  by_cases he : (endM (runF s m0)).e = 0
  · rw [if_neg (fun x => x he)] at h hp
    by_cases hw : wideT (runF s m0).top.done
    · rw [if_pos hw] at h
      cases h
    · rw [if_neg hw] at hp
      have h0 : (runF s m0).sc.e = 0 := by
        by_cases h0 : (runF s m0).sc.e = 0
        · exact h0
        · rw [endM_ne h0] at he; exact he
      have hr : (runF s m0).rest = [] := by
        cases hr : (runF s m0).rest with
        | nil => rfl
        | cons p r =>
          unfold endM at he
          rw [hr] at he
          dsimp only at he
          unfold Sc.fail at he
          rw [if_pos h0] at he
          cases he
      rw [hp]
      exact ⟨hs, h0, hr, rfl, hw, rfl⟩
  · rw [if_pos he] at h
    exact absurd h he
theorem runF_at {s : ByteArray} : ∀ (d : Nat) (m : Mc), s.size - m.sc.at_ ≤ d → m.sc.at_ ≤ s.size → (runF s m).sc.e = 0 → (runF s m).sc.at_ = s.size
  | d, m, hd, hm, he => by
    by_cases hg : goes s m.sc
    · rw [runF_go hg] at he ⊢
      have h1 := step_at hg
      cases d with
      | zero => have := hg.2; omega
      | succ d => exact runF_at d _ (by have := h1.1; omega) h1.2 he
    · rw [runF_stop hg] at he ⊢
      by_cases h : m.sc.at_ < s.size
      · exact absurd ⟨he, h⟩ hg
      · omega
theorem m0_alk {a b : ByteArray} {k : Nat} {base : List Lv} {pl : Int} : Alk a.size k base m0 ⟨⟨k, pl, 0⟩, ⟨[], []⟩, base⟩ := ⟨⟨rfl, rfl, (Nat.zero_add k).symm⟩, Nat.zero_le _, rfl, rfl⟩
/-- A text that is an expression, inside of another text. -/
theorem inner_run {a b : ByteArray} {k : Nat} (H : Ag a b k) (base : List Lv) (pl : Int) (h : (parseS a).e = 0) :
    ∃ pl' top, runF b ⟨⟨k, pl, 0⟩, ⟨[], []⟩, base⟩ = runF b ⟨⟨a.size + k, pl', 0⟩, top, base⟩ ∧ top.done = (parseS a).t := by
  obtain ⟨hs, h0, hr, hd, _, _⟩ := parse_ok h
  obtain ⟨m1, h1, h2⟩ := run_str H (base := base) a.size m0 ⟨⟨k, pl, 0⟩, ⟨[], []⟩, base⟩ (by show a.size - 0 ≤ _; omega) (m0_alk (b := b))
  rcases h2 with ⟨hA, hat⟩ | hB
  · obtain ⟨⟨at_, p, e⟩, top, rest⟩ := m1
    obtain ⟨⟨e1, e2, e3⟩, e4, e5, e6⟩ := hA
    dsimp only at e2 e3 e5 e6
    rw [hr] at e6
    subst e2
    refine ⟨p, top, ?_, by rw [e5]; exact hd⟩
    rw [h1]
    congr 2
    rw [e3, hat]
  · exact absurd h0 hB.ne

/-! #### SyntaxBegins -/
/-- What an error can be. -/
def Fn (s : ByteArray) (st : Sc) : Prop := st.e = 0 ∨ ((st.e = 2 ∨ st.e = 3) ∧ 0 ≤ st.pl ∧ st.pl ≤ (s.size : Int))
section
variable {s : ByteArray} {st : Sc}
theorem Fn.fail (h : Fn s st) (p e : Int) (hp : 0 ≤ p ∧ p ≤ (s.size : Int)) (he : e = 2 ∨ e = 3) : Fn s (st.fail p e) := by
  unfold Sc.fail
  split
  · exact .inr ⟨he, hp⟩
  · exact h
theorem Fn.failAt (h : Fn s st) (hp : st.at_ ≤ s.size) : Fn s (st.fail st.at_ 2) := h.fail _ _ ⟨by omega, by omega⟩ (.inl rfl)
theorem Fn.adv (h : Fn s st) : Fn s st.adv := h
theorem fn_may (h : Fn s st) (c : Int) : Fn s (mayS s st c) := by unfold mayS; split <;> exact h
theorem fn_must (h : Fn s st) (hp : st.at_ ≤ s.size) (c : Int) : Fn s (mustS s st c) := by
  unfold mustS
  split
  · exact h
  · exact h.failAt hp
theorem fn_digit (h : Fn s st) (hp : st.at_ ≤ s.size) : Fn s (digitS s st).2 := by
  unfold digitS
  split
  · exact h
  · exact h.failAt hp
theorem fn_escape (h : Fn s st) (hp : st.at_ ≤ s.size) : Fn s (escapeS s st).2 := by
  unfold escapeS
  split
  · exact h
  split
  · exact h
  split
  · rename_i hb
    have h1 : st.adv.at_ ≤ s.size := (isB_lt hb).2.1
    exact fn_digit (fn_digit (st := st.adv) h h1) (le_digit h1).2
  split
  · exact h
  · exact h.failAt hp
theorem fn_item (h : Fn s st) (hp : st.at_ ≤ s.size) : Fn s (itemS s st).2 := by
  unfold itemS
  split
  · rename_i hb
    exact fn_escape (st := st.adv) h (isB_lt hb).2.1
  split
  · exact h
  · exact h.failAt hp
theorem fn_items (h : Fn s st) (hp : st.at_ ≤ s.size) : Fn s (itemsS s st).2 := by
  have h0 := fn_item h hp
  have l0 := le_item hp
  unfold itemsS
  split
  · rename_i hb
    have h2 := fn_item (st := (itemS s st).2.adv) h0 (isB_lt hb).2.1
    dsimp only
    split
    · exact h2.fail _ _ ⟨by omega, by have := l0.2; omega⟩ (.inl rfl)
    · exact h2
  · exact h0
theorem fn_setGo : ∀ (n : Nat) (f : Nat → Bool) {st : Sc}, Fn s st → st.at_ ≤ s.size → Fn s (setGo s n f st).2
  | 0, f, st, h, hp => h
  | n + 1, f, st, h, hp => by
    rw [setGo]
    split
    · split
      · exact h
      · exact fn_setGo n _ (fn_items h hp) (le_items hp).2
    · exact h
theorem fn_set (h : Fn s st) (hp : st.at_ ≤ s.size) : Fn s (setS s st).2 := by
  have h1 := le_may (s := s) hp 94
  unfold setS
  exact fn_setGo _ _ (fn_items (fn_may h 94) h1.2) (le_items h1.2).2
theorem fn_number (h : Fn s st) (hp : st.at_ ≤ s.size) : Fn s (numberS s st).2 := by
  unfold numberS
  split
  · dsimp only
    split
    · exact .inr ⟨.inl rfl, by dsimp only; omega, by dsimp only; omega⟩
    split
    · exact .inr ⟨.inr rfl, by dsimp only; omega, by dsimp only; omega⟩
    · exact .inl rfl
  · exact h
theorem fn_times2 (h : Fn s st) (hp : st.at_ ≤ s.size) (v : Int) : Fn s (times2 s v st).2 := by
  unfold times2
  split
  · rename_i hb
    split
    · exact h
    · exact fn_number (st := st.adv) h (isB_lt hb).2.1
  · exact h
theorem fn_times (h : Fn s st) (hp : st.at_ ≤ s.size) (h1 : 1 ≤ st.at_) : Fn s (timesS s st).2 := by
  have l1 := le_number hp
  have l2 := le_times2 (s := s) (numberS s st).1 l1.2
  have f3 := fn_must (fn_times2 (fn_number h hp) l1.2 (numberS s st).1) l2.2 125
  unfold timesS
  dsimp only
  split
  · exact f3.fail _ _ ⟨by omega, by omega⟩ (.inl rfl)
  · exact f3
theorem fn_step {m : Mc} (hg : goes s m.sc) : Fn s (stepM s m).sc := by
  have h : Fn s m.sc.adv := .inl hg.1
  have hl : m.sc.adv.at_ ≤ s.size := hg.2
  have hf : Fn s (m.sc.adv.fail m.sc.at_ 2) := h.fail _ _ ⟨by omega, by have := hg.2; omega⟩ (.inl rfl)
  have hi : ∀ {c : Prop} [Decidable c] {x y : Mc}, Fn s x.sc → Fn s y.sc → Fn s (if c then x else y).sc := fun {c} _ {x y} ha hb => by
    split
    · exact ha
    · exact hb
  unfold stepM Mc.repeat_ Mc.put
  dsimp only
  refine hi h (hi ?_ (hi h (hi (hi hf h) (hi (hi hf h) (hi (hi hf h) (hi (hi hf (fn_times h hl (by show 1 ≤ m.sc.at_ + 1; omega))) (hi h (hi (fn_set h hl) (hi (fn_escape h hl) (hi hf h))))))))))
  split
  · exact hf
  · exact h
theorem fn_run : ∀ (d : Nat) (m : Mc), s.size - m.sc.at_ ≤ d → m.sc.at_ ≤ s.size → Fn s m.sc → Fn s (runF s m).sc ∧ (runF s m).sc.at_ ≤ s.size
  | d, m, hd, hm, hf => by
    by_cases hg : goes s m.sc
    · rw [runF_go hg]
      have h1 := step_at hg
      cases d with
      | zero => have := hg.2; omega
      | succ d => exact fn_run d _ (by have := h1.1; omega) h1.2 (fn_step hg)
    · rw [runF_stop hg]; exact ⟨hf, hm⟩
theorem fn_end : Fn s (endM (runF s m0)) := by
  have h := fn_run (s := s) s.size m0 (by show s.size - 0 ≤ _; omega) (Nat.zero_le _) (.inl rfl)
  unfold endM
  split
  · exact h.1
  · exact h.1.failAt h.2
theorem parse_fn : (parseS s).e = 0 ∨ (parseS s).e = 3 ∨ ((parseS s).e = 2 ∧ 0 ≤ (parseS s).pl ∧ (parseS s).pl ≤ (s.size : Int)) := by
  by_cases hs : s.size ≤ 400
  · rw [parse_f s hs]
    split
    · rename_i he
      rcases fn_end (s := s) with h | ⟨h | h, h2, h3⟩
      · exact absurd h he
      · exact .inr (.inr ⟨h, h2, h3⟩)
      · exact .inr (.inl h)
    split
    · exact .inr (.inl rfl)
    · exact .inl rfl
  · unfold parseS
    rw [if_pos (by omega)]
    exact .inr (.inl rfl)
end
/-- What stands ahead of the place isn't to blame. -/
theorem begins {s p : ByteArray} (H : Ag p s 0) (hs : s.size ≤ 400) (he : (parseS s).e = 2) (hp : (parseS s).pl = (p.size : Int)) : (parseS p).e = 0 ∨ (parseS p).e = 3 ∨ (parseS p).pl = (p.size : Int) := by
  have hsz := H.sz
  obtain ⟨m1, h1, h2⟩ := run_str H (base := []) p.size m0 ⟨⟨0, 0, 0⟩, ⟨[], []⟩, []⟩ (by show p.size - 0 ≤ _; omega) (m0_alk (b := s))
  have h1' : runF s m0 = runF s m1 := h1
  have hps : p.size ≤ 400 := by omega
  have hP := parse_f p hps
  have hS := parse_f s hs
  have ns : (endM (runF s m0)).e = 2 ∧ (endM (runF s m0)).pl = (p.size : Int) := by
    rw [hS] at he hp
    split at he
    · rename_i h0
      rw [if_pos h0] at hp
      exact ⟨he, hp⟩
    · split at he <;> cases he
  rcases h2 with ⟨hA, hat⟩ | hB
  · have h0 : (runF p m0).sc.e = 0 := hA.eqs.1
    cases hr : (runF p m0).rest with
    | nil =>
      have hE : endM (runF p m0) = (runF p m0).sc := by unfold endM; rw [hr]
      rw [hE, if_neg (fun x => x h0)] at hP
      split at hP
      · exact .inr (.inl (by rw [hP]))
      · exact .inl (by rw [hP])
    | cons q r =>
      have hE : endM (runF p m0) = ⟨(runF p m0).sc.at_, (runF p m0).sc.at_, 2⟩ := by unfold endM; rw [hr]; exact fail_ok h0 _ _
      rw [hE, if_pos two_ne] at hP
      refine .inr (.inr ?_)
      rw [hP, hat]
  · have hne := hB.ne
    rw [endM_ne hne, if_pos hne] at hP
    rcases hB with (⟨e1, e2⟩ | e1 | ⟨_, e2, e3⟩) | ⟨_, e⟩
    · exact .inr (.inr (by rw [hP]; exact e2))
    · exact .inr (.inl (by rw [hP]; exact e1))
    · exfalso
      have : runF s m1 = m1 := runF_stop fun g => e2 g.1
      rw [h1', this, endM_ne e2] at ns
      exact e3 ⟨ns.1, by rw [ns.2]; omega⟩
    · exact absurd rfl e

/-! #### SyntaxGroups, SyntaxRepeats -/
theorem step_open {s : ByteArray} {m : Mc} (h : gb s m.sc.at_ = 40) : stepM s m = ⟨m.sc.adv, ⟨[], []⟩, m.top :: m.rest⟩ := by simp [stepM, h]
theorem step_shut {s : ByteArray} {at_ : Nat} {pl : Int} {top p : Lv} {r : List Lv} (h : gb s at_ = 41) : stepM s ⟨⟨at_, pl, 0⟩, top, p :: r⟩ = ⟨⟨at_ + 1, pl, 0⟩, p.put top.done, r⟩ := by simp [stepM, h, Sc.adv]
theorem step_alt {s : ByteArray} {m : Mc} (h : gb s m.sc.at_ = 124) : stepM s m = ⟨m.sc.adv, m.top.close, m.rest⟩ := by simp [stepM, h]
/-- Brackets: what is read, behind them. -/
theorem group_run {a b : ByteArray} {k : Nat} (H : Ag a b (k + 1)) (h1 : gb b k = 40) (h2 : gb b (a.size + (k + 1)) = 41) (hsz : a.size + (k + 1) < b.size) (top : Lv) (rest : List Lv) (pl : Int) (h : (parseS a).e = 0) :
    ∃ pl', runF b ⟨⟨k, pl, 0⟩, top, rest⟩ = runF b ⟨⟨a.size + (k + 2), pl', 0⟩, top.put (parseS a).t, rest⟩ := by
  have hg1 : goes b (⟨⟨k, pl, 0⟩, top, rest⟩ : Mc).sc := ⟨rfl, by dsimp only; omega⟩
  obtain ⟨pl', top', hr, hd⟩ := inner_run H (top :: rest) pl h
  have hg2 : goes b (⟨⟨a.size + (k + 1), pl', 0⟩, top', top :: rest⟩ : Mc).sc := ⟨rfl, hsz⟩
  refine ⟨pl', ?_⟩
  rw [runF_go hg1, step_open h1]
  show runF b ⟨⟨k + 1, pl, 0⟩, ⟨[], []⟩, top :: rest⟩ = _
  rw [hr, runF_go hg2, step_shut h2, hd]
  rfl
/-- The text's end. -/
theorem parse_at_end {b : ByteArray} {pl : Int} {top : Lv} (hs : b.size ≤ 400) (h : runF b m0 = runF b ⟨⟨b.size, pl, 0⟩, top, []⟩) : parseS b = if wideT top.done then ⟨zN, 0, 3⟩ else ⟨top.done, 0, 0⟩ := by
  have hr : runF b ⟨⟨b.size, pl, 0⟩, top, []⟩ = ⟨⟨b.size, pl, 0⟩, top, []⟩ := runF_stop fun g => Nat.lt_irrefl _ g.2
  rw [parse_f b hs, h, hr]
  have hE : endM ⟨⟨b.size, pl, 0⟩, top, []⟩ = ⟨b.size, pl, 0⟩ := rfl
  rw [hE, if_neg (fun x => x rfl)]
theorem put_nil (t : T) : (⟨[], []⟩ : Lv).put t = ⟨[], [t]⟩ := rfl
theorem done_one (t : T) : (⟨[], [t]⟩ : Lv).done = t := rfl
/-- "(" a ")" -/
theorem groups_one {a b : ByteArray} (H : Ag a b 1) (h0 : gb b 0 = 40) (h1 : gb b (a.size + 1) = 41) (hsz : b.size = a.size + 2) (hs : b.size ≤ 400) (h : (parseS a).e = 0) : parseS b = parseS a := by
  obtain ⟨pl', hr⟩ := group_run (k := 0) H h0 h1 (by omega) ⟨[], []⟩ [] 0 h
  obtain ⟨_, _, _, _, hw, hp⟩ := parse_ok h
  have := parse_at_end (b := b) (pl := pl') (top := ⟨[], [(parseS a).t]⟩) hs (by rw [show b.size = a.size + (0 + 2) by omega]; exact hr)
  rw [this, done_one, if_neg hw, ← hp]
def altT (t : T) : T := ⟨3, ⟨0, 0, 0, 0⟩, [t, t], 0, 0⟩
/-- "(" a ")|(" a ")" -/
theorem groups_two {a b : ByteArray} (H : Ag a b 1) (H2 : Ag a b (a.size + 4)) (h0 : gb b 0 = 40) (h1 : gb b (a.size + 1) = 41) (h2 : gb b (a.size + 2) = 124) (h3 : gb b (a.size + 3) = 40) (h4 : gb b (a.size + (a.size + 4)) = 41)
    (hsz : b.size = a.size + (a.size + 5)) (hs : b.size ≤ 400) (h : (parseS a).e = 0) : parseS b = if wideT (altT (parseS a).t) then ⟨zN, 0, 3⟩ else ⟨altT (parseS a).t, 0, 0⟩ := by
  obtain ⟨pl', hr⟩ := group_run (k := 0) H h0 h1 (by omega) ⟨[], []⟩ [] 0 h
  have hg : goes b (⟨⟨a.size + 2, pl', 0⟩, ⟨[], [(parseS a).t]⟩, []⟩ : Mc).sc := ⟨rfl, by dsimp only; omega⟩
  obtain ⟨pl2, hr2⟩ := group_run (k := a.size + 3) H2 h3 h4 (by omega) ⟨[(parseS a).t], []⟩ [] pl' h
  have hrun : runF b m0 = runF b ⟨⟨b.size, pl2, 0⟩, ⟨[(parseS a).t], [(parseS a).t]⟩, []⟩ := by
    show runF b ⟨⟨0, 0, 0⟩, ⟨[], []⟩, []⟩ = _
    rw [hr, put_nil]
    show runF b ⟨⟨a.size + 2, pl', 0⟩, ⟨[], [(parseS a).t]⟩, []⟩ = _
    rw [runF_go hg, step_alt h2]
    show runF b ⟨⟨a.size + 3, pl', 0⟩, ⟨[(parseS a).t], []⟩, []⟩ = _
    rw [hr2, hsz]
    rfl
  rw [parse_at_end hs hrun]
  rfl
end Go.Proofs.Ytmkcbbamfkafmaa.P
/- Numbers in a text: what the reader makes of their digits; SyntaxBounds, SyntaxRepeats in plain words. -/
namespace Go.Proofs.Ytmkcbbamfkafmaa.P
open Go.RowKit Go.Proofs.Ytmkcbbamfkafmaa
set_option linter.unusedVariables false
set_option linter.unusedSimpArgs false
/-- A number's digits. -/
def digL (n : Nat) : List UInt8 := if h : n > 9 then digL (n / 10) ++ [UInt8.ofNat (48 + n % 10)] else [UInt8.ofNat (48 + n)]
termination_by n
decreasing_by omega
theorem digL_big {n : Nat} (h : n > 9) : digL n = digL (n / 10) ++ [UInt8.ofNat (48 + n % 10)] := by rw [digL, dif_pos h]
theorem digL_small {n : Nat} (h : ¬ n > 9) : digL n = [UInt8.ofNat (48 + n)] := by rw [digL, dif_neg h]
theorem ofNat_val {k : Nat} (h : k < 256) : (UInt8.ofNat k).toNat = k := by simp [UInt8.toNat_ofNat']; omega
def isDig (c : UInt8) : Prop := 48 ≤ c.toNat ∧ c.toNat ≤ 57
theorem digL_dig (n : Nat) : ∀ c ∈ digL n, isDig c := by
  induction n using Nat.strongRecOn with
  | ind n ih =>
    intro c hc
    by_cases h : n > 9
    · rw [digL_big h] at hc
      rcases List.mem_append.1 hc with hc | hc
      · exact ih _ (by omega) c hc
      · obtain rfl := List.mem_singleton.1 hc
        unfold isDig
        rw [ofNat_val (by omega)]
        omega
    · rw [digL_small h] at hc
      obtain rfl := List.mem_singleton.1 hc
      unfold isDig
      rw [ofNat_val (by omega)]
      omega
def valL (v : Nat) (l : List UInt8) : Nat := l.foldl (fun v c => 10 * v + (c.toNat - 48)) v
theorem digL_val (n : Nat) : valL 0 (digL n) = n := by
  induction n using Nat.strongRecOn with
  | ind n ih =>
    by_cases h : n > 9
    · rw [digL_big h]
      unfold valL at *
      rw [List.foldl_append, ih _ (by omega)]
      simp only [List.foldl_cons, List.foldl_nil]
      rw [ofNat_val (by omega)]
      omega
    · rw [digL_small h]
      unfold valL
      simp only [List.foldl_cons, List.foldl_nil]
      rw [ofNat_val (by omega)]
      omega
theorem digL_len (n : Nat) : 1 ≤ (digL n).length := by
  by_cases h : n > 9
  · rw [digL_big h]; simp
  · rw [digL_small h]; simp
theorem digL_len_le {d : Nat} : ∀ {n : Nat}, n < 10 ^ (d + 1) → (digL n).length ≤ d + 1 := by
  induction d with
  | zero => intro n h; rw [digL_small (by omega)]; simp
  | succ d ih =>
    intro n h
    by_cases h9 : n > 9
    · rw [digL_big h9, List.length_append]
      have := ih (n := n / 10) (by rw [Nat.pow_succ] at h; omega)
      simp
      exact this
    · rw [digL_small h9]; simp
/-- A row of bytes stands in a text. -/
def At (s : ByteArray) (i : Nat) (l : List UInt8) : Prop := i + l.length ≤ s.size ∧ ∀ j (h : j < l.length), gb s (i + j) = (l[j].toNat : Int)
theorem At.tail {s : ByteArray} {i : Nat} {c : UInt8} {l : List UInt8} (h : At s i (c :: l)) : At s (i + 1) l := by
  refine ⟨by have := h.1; rw [List.length_cons] at this; omega, fun j hj => ?_⟩
  have := h.2 (j + 1) (by rw [List.length_cons]; omega)
  rw [show i + (j + 1) = i + 1 + j by omega] at this
  exact this
theorem At.head {s : ByteArray} {i : Nat} {c : UInt8} {l : List UInt8} (h : At s i (c :: l)) : gb s i = (c.toNat : Int) := h.2 0 (by simp)
theorem At.left {s : ByteArray} {i : Nat} {l m : List UInt8} (h : At s i (l ++ m)) : At s i l := by
  refine ⟨by have := h.1; rw [List.length_append] at this; omega, fun j hj => ?_⟩
  have := h.2 j (by rw [List.length_append]; omega)
  rw [List.getElem_append_left hj] at this
  exact this
theorem At.right {s : ByteArray} {i : Nat} {l m : List UInt8} (h : At s i (l ++ m)) : At s (i + l.length) m := by
  refine ⟨by have := h.1; rw [List.length_append] at this; omega, fun j hj => ?_⟩
  have := h.2 (l.length + j) (by rw [List.length_append]; omega)
  rw [List.getElem_append_right (by omega)] at this
  rw [show i + l.length + j = i + (l.length + j) by omega, this]
  congr 3
  omega
theorem numGo_list {s : ByteArray} : ∀ (l : List UInt8) (k i v : Nat), At s i l → (∀ c ∈ l, isDig c) → ¬ digC s (i + l.length) → l.length ≤ k →
    numGo s k (min (v : Int) 2147483648) i = (min ((valL v l : Nat) : Int) 2147483648, i + l.length)
  | [], k, i, v, h, hd, hs, hk => by
    have : numGo s k (min (v : Int) 2147483648) i = (min (v : Int) 2147483648, i) := by
      cases k with
      | zero => rfl
      | succ k => rw [numGo, if_neg (show ¬ digC s i from hs)]
    rw [this]
    rfl
  | c :: l, 0, i, v, h, hd, hs, hk => by simp at hk
  | c :: l, k + 1, i, v, h, hd, hs, hk => by
    have hc := hd c (List.mem_cons_self ..)
    have hg := h.head
    have hd1 : digC s i := by
      unfold digC
      rw [hg]
      have := h.1
      rw [List.length_cons] at this
      unfold isDig at hc
      omega
    rw [numGo, if_pos hd1, hg]
    have ih := numGo_list l k (i + 1) (10 * v + (c.toNat - 48)) h.tail (fun x hx => hd x (List.mem_cons_of_mem _ hx)) (by rw [List.length_cons] at hs; rw [show i + 1 + l.length = i + (l.length + 1) by omega]; exact hs) (by rw [List.length_cons] at hk; omega)
    have e1 : min (10 * min (v : Int) 2147483648 + ((c.toNat : Int) - 48)) 2147483648 = min ((10 * v + (c.toNat - 48) : Nat) : Int) 2147483648 := by
      unfold isDig at hc
      omega
    rw [e1, ih, List.length_cons, show i + 1 + l.length = i + (l.length + 1) by omega]
    rfl
/-- A number in a text, and what isn't a digit behind it. -/
theorem number_dig {s : ByteArray} {i n : Nat} {pl : Int} (h : At s i (digL n)) (hs : ¬ digC s (i + (digL n).length)) :
    numberS s ⟨i, pl, 0⟩ = (min (n : Int) 2147483648, if n > 2147483647 then ⟨i + (digL n).length, i, 3⟩ else ⟨i + (digL n).length, pl, 0⟩) := by
  have hl := h.1
  have hp := digL_len n
  have := numGo_list (digL n) (s.size - i) i 0 h (digL_dig n) hs (by omega)
  rw [digL_val, show min ((0 : Nat) : Int) 2147483648 = 0 by omega] at this
  unfold numberS
  rw [if_pos rfl]
  dsimp only
  rw [this]
  dsimp only
  rw [if_neg (by omega)]
  by_cases hn : n > 2147483647
  · rw [if_pos hn, if_pos (by omega)]
  · rw [if_neg hn, if_neg (by omega)]
theorem not_dig {s : ByteArray} {i : Nat} {c : Int} (h : gb s i = c) (hc : c < 48 ∨ 57 < c) : ¬ digC s i := by
  unfold digC
  rw [h]
  omega
theorem isB_at {s : ByteArray} {i : Nat} {pl c d : Int} (h : gb s i = d) (hi : i < s.size) : isB s ⟨i, pl, 0⟩ c = decide (d = c) := by
  unfold isB
  dsimp only
  rw [h, decide_eq_true hi]
  simp
/-- What a pair of numbers comes to: in brackets, from i on. -/
def timesV (i : Nat) (pl : Int) (lo hi : Nat) : (Int × Int) × Sc :=
  if lo > 2147483647 then ((2147483648, 2147483648), ⟨i + (digL lo).length, i, 3⟩)
  else if hi > 2147483647 then ((lo, 2147483648), ⟨i + (digL lo).length + 1 + (digL hi).length, (i : Int) + (digL lo).length + 1, 3⟩)
  else if lo > hi then ((lo, hi), ⟨i + (digL lo).length + 1 + (digL hi).length + 1, (i : Int) - 1, 2⟩)
  else ((lo, hi), ⟨i + (digL lo).length + 1 + (digL hi).length + 1, pl, 0⟩)
theorem times_two {s : ByteArray} {i lo hi : Nat} {pl : Int} (h1 : At s i (digL lo)) (h2 : gb s (i + (digL lo).length) = 44) (h3 : At s (i + (digL lo).length + 1) (digL hi)) (h4 : gb s (i + (digL lo).length + 1 + (digL hi).length) = 125)
    (h5 : i + (digL lo).length + 1 + (digL hi).length < s.size) : timesS s ⟨i, pl, 0⟩ = timesV i pl lo hi := by
  have n1 := number_dig (pl := pl) h1 (not_dig h2 (by omega))
  unfold timesS timesV
  dsimp only
  rw [n1]
  dsimp only
  by_cases hl : lo > 2147483647
  · rw [if_pos hl, if_pos hl, times2_ne (by dsimp only; decide)]
    dsimp only
    rw [must_ne (by dsimp only; decide), if_neg (by omega), show min (lo : Int) 2147483648 = 2147483648 by omega]
  · rw [if_neg hl, if_neg hl]
    have b1 := isB_at (s := s) (i := i + (digL lo).length) (pl := pl) (c := 44) h2 (by omega)
    have n2 := number_dig (pl := pl) h3 (not_dig h4 (by omega))
    have b2 := isB_at (s := s) (i := i + (digL lo).length + 1) (pl := pl) (c := 125) rfl (by have := digL_len hi; omega)
    have hne : gb s (i + (digL lo).length + 1) ≠ 125 := by
      have := digL_dig hi _ (List.getElem_mem (show 0 < (digL hi).length by have := digL_len hi; omega))
      have e := h3.2 0 (by have := digL_len hi; omega)
      unfold isDig at this
      rw [Nat.add_zero] at e
      rw [e]
      omega
    rw [decide_eq_false hne] at b2
    unfold times2
    rw [b1, decide_eq_true rfl, if_pos rfl]
    unfold Sc.adv
    dsimp only
    rw [b2, if_neg (by decide), n2]
    dsimp only
    by_cases hh : hi > 2147483647
    · rw [if_pos hh, if_pos hh, must_ne (by dsimp only; decide), fail_ne (by dsimp only; decide), show min (lo : Int) 2147483648 = lo by omega, show min (hi : Int) 2147483648 = 2147483648 by omega]
      simp
    · rw [if_neg hh, if_neg hh]
      have b3 := isB_at (s := s) (i := i + (digL lo).length + 1 + (digL hi).length) (pl := pl) (c := 125) h4 h5
      unfold mustS
      rw [b3, decide_eq_true rfl, if_pos rfl, show min (lo : Int) 2147483648 = lo by omega, show min (hi : Int) 2147483648 = hi by omega]
      by_cases hlt : lo > hi
      · rw [if_pos hlt, if_pos (by omega)]
        rfl
      · rw [if_neg hlt, if_neg (by omega)]
        rfl
/-- With no second number. -/
def timesO (i : Nat) (pl : Int) (lo : Nat) : (Int × Int) × Sc :=
  if lo > 2147483647 then ((2147483648, 2147483648), ⟨i + (digL lo).length, i, 3⟩)
  else ((lo, -1), ⟨i + (digL lo).length + 2, pl, 0⟩)
theorem times_open {s : ByteArray} {i lo : Nat} {pl : Int} (h1 : At s i (digL lo)) (h2 : gb s (i + (digL lo).length) = 44) (h3 : gb s (i + (digL lo).length + 1) = 125) (h4 : i + (digL lo).length + 1 < s.size) :
    timesS s ⟨i, pl, 0⟩ = timesO i pl lo := by
  have n1 := number_dig (pl := pl) h1 (not_dig h2 (by omega))
  unfold timesS timesO
  dsimp only
  rw [n1]
  dsimp only
  by_cases hl : lo > 2147483647
  · rw [if_pos hl, if_pos hl, times2_ne (by dsimp only; decide)]
    dsimp only
    rw [must_ne (by dsimp only; decide), if_neg (by omega), show min (lo : Int) 2147483648 = 2147483648 by omega]
  · rw [if_neg hl, if_neg hl]
    have b1 := isB_at (s := s) (i := i + (digL lo).length) (pl := pl) (c := 44) h2 (by omega)
    have b2 := isB_at (s := s) (i := i + (digL lo).length + 1) (pl := pl) (c := 125) h3 h4
    unfold times2 mustS
    rw [b1, decide_eq_true rfl, if_pos rfl]
    unfold Sc.adv
    dsimp only
    rw [b2, decide_eq_true rfl, if_pos rfl]
    dsimp only
    rw [b2, decide_eq_true rfl, if_pos rfl, show min (lo : Int) 2147483648 = lo by omega, if_neg (by omega)]
theorem step_brace {s : ByteArray} {m : Mc} (h : gb s m.sc.at_ = 123) (hr : m.top.row ≠ []) : stepM s m = ⟨(timesS s m.sc.adv).2, m.top.rep (timesS s m.sc.adv).1.1 (timesS s m.sc.adv).1.2, m.rest⟩ := by simp [stepM, h, hr]
/-- "(" a "){" lo "," hi "}" -/
theorem repeats {a b : ByteArray} {lo hi : Nat} (H : Ag a b 1) (h0 : gb b 0 = 40) (h1 : gb b (a.size + 1) = 41) (h2 : gb b (a.size + 2) = 123) (d1 : At b (a.size + 3) (digL lo)) (h3 : gb b (a.size + 3 + (digL lo).length) = 44)
    (d2 : At b (a.size + 3 + (digL lo).length + 1) (digL hi)) (h4 : gb b (a.size + 3 + (digL lo).length + 1 + (digL hi).length) = 125) (hsz : b.size = a.size + 3 + (digL lo).length + 1 + (digL hi).length + 1) (hs : b.size ≤ 400)
    (hlo : lo ≤ hi) (hhi : hi ≤ 2147483647) (h : (parseS a).e = 0) : parseS b = if wideT (timN (parseS a).t lo hi) then ⟨zN, 0, 3⟩ else ⟨timN (parseS a).t lo hi, 0, 0⟩ := by
  obtain ⟨pl', hr⟩ := group_run (k := 0) H h0 h1 (by omega) ⟨[], []⟩ [] 0 h
  have hg : goes b (⟨⟨a.size + 2, pl', 0⟩, ⟨[], [(parseS a).t]⟩, []⟩ : Mc).sc := ⟨rfl, by dsimp only; omega⟩
  have ht := times_two (pl := pl') d1 h3 d2 h4 (by omega)
  unfold timesV at ht
  rw [if_neg (by omega), if_neg (by omega), if_neg (by omega)] at ht
  have hrun : runF b m0 = runF b ⟨⟨b.size, pl', 0⟩, ⟨[], [timN (parseS a).t lo hi]⟩, []⟩ := by
    show runF b ⟨⟨0, 0, 0⟩, ⟨[], []⟩, []⟩ = _
    rw [hr, put_nil]
    show runF b ⟨⟨a.size + 2, pl', 0⟩, ⟨[], [(parseS a).t]⟩, []⟩ = _
    rw [runF_go hg, step_brace h2 (by simp)]
    show runF b ⟨(timesS b ⟨a.size + 3, pl', 0⟩).2, (⟨[], [(parseS a).t]⟩ : Lv).rep (timesS b ⟨a.size + 3, pl', 0⟩).1.1 (timesS b ⟨a.size + 3, pl', 0⟩).1.2, []⟩ = _
    rw [ht, hsz]
    rfl
  rw [parse_at_end hs hrun, done_one]
/-- The machine behind one byte. -/
def mA : Lv := ⟨[], [setN (fun q => decide ((q : Int) = 97))]⟩
theorem step_a {s : ByteArray} (h : gb s 0 = 97) : stepM s m0 = ⟨⟨1, 0, 0⟩, mA, []⟩ := by simp [stepM, m0, h, Mc.put, Lv.put, Sc.adv, mA]
theorem bound_run {s : ByteArray} (h : gb s 0 = 97) (h1 : gb s 1 = 123) (hs : 2 ≤ s.size) : runF s m0 = runF s ⟨(timesS s ⟨2, 0, 0⟩).2, mA.rep (timesS s ⟨2, 0, 0⟩).1.1 (timesS s ⟨2, 0, 0⟩).1.2, []⟩ := by
  rw [runF_go (m := m0) ⟨rfl, by show 0 < s.size; omega⟩, step_a h, runF_go (m := ⟨⟨1, 0, 0⟩, mA, []⟩) ⟨rfl, by show 1 < s.size; omega⟩, step_brace h1 (by simp [mA])]
  rfl
theorem bound_err {s : ByteArray} (h : gb s 0 = 97) (h1 : gb s 1 = 123) (hs : 2 ≤ s.size) (hs2 : s.size ≤ 400) (he : (timesS s ⟨2, 0, 0⟩).2.e ≠ 0) : parseS s = ⟨zN, (timesS s ⟨2, 0, 0⟩).2.pl, (timesS s ⟨2, 0, 0⟩).2.e⟩ := by
  have hr := bound_run h h1 hs
  rw [runF_stop (s := s) (m := ⟨(timesS s ⟨2, 0, 0⟩).2, mA.rep (timesS s ⟨2, 0, 0⟩).1.1 (timesS s ⟨2, 0, 0⟩).1.2, []⟩) (fun g => he g.1)] at hr
  rw [parse_f s hs2, hr]
  rw [show endM ⟨(timesS s ⟨2, 0, 0⟩).2, mA.rep (timesS s ⟨2, 0, 0⟩).1.1 (timesS s ⟨2, 0, 0⟩).1.2, []⟩ = (timesS s ⟨2, 0, 0⟩).2 from rfl, if_pos he]
theorem bound_ok {s : ByteArray} (h : gb s 0 = 97) (h1 : gb s 1 = 123) (hs : 2 ≤ s.size) (hs2 : s.size ≤ 400) {lo hi pl : Int} (he : timesS s ⟨2, 0, 0⟩ = ((lo, hi), ⟨s.size, pl, 0⟩)) : parseS s = ⟨timN (setN (fun q => decide ((q : Int) = 97))) lo hi, 0, 0⟩ := by
  have hr := bound_run h h1 hs
  rw [he] at hr
  dsimp only at hr
  rw [parse_at_end hs2 hr]
  have hd : (mA.rep lo hi).done = timN (setN (fun q => decide ((q : Int) = 97))) lo hi := rfl
  rw [hd, if_neg]
  unfold wideT
  simp [timN, setN, depthT, depthL, placesT, placesL]
end Go.Proofs.Ytmkcbbamfkafmaa.P
/- Bytes told by two digits: what the reader makes of them, in plain words. -/
namespace Go.Proofs.Ytmkcbbamfkafmaa.P
open Go.RowKit Go.Proofs.Ytmkcbbamfkafmaa
set_option linter.unusedVariables false
set_option linter.unusedSimpArgs false
/-- At i stands a byte told by two digits. -/
structure HexAt (s : ByteArray) (i : Nat) (a : Int) : Prop where
  sz : i + 4 ≤ s.size
  c0 : gb s i = 92
  c1 : gb s (i + 1) = 120
  hi : 0 ≤ hexI (gb s (i + 2))
  lo : 0 ≤ hexI (gb s (i + 3))
  val : hexI (gb s (i + 2)) * 16 + hexI (gb s (i + 3)) = a
theorem digit_at {s : ByteArray} {i : Nat} {pl : Int} (hi : i < s.size) (h : 0 ≤ hexI (gb s i)) : digitS s ⟨i, pl, 0⟩ = (hexI (gb s i), ⟨i + 1, pl, 0⟩) := by
  unfold digitS
  rw [if_pos ⟨rfl, hi, h⟩]
  rfl
section
variable {s : ByteArray} {i : Nat} {a pl : Int} (h : HexAt s i a)
include h
theorem hex_escape : escapeS s ⟨i + 1, pl, 0⟩ = (a, ⟨i + 4, pl, 0⟩) := by
  have hs := h.sz
  have b1 := isB_at (s := s) (i := i + 1) (pl := pl) (c := 110) h.c1 (by omega)
  have b2 := isB_at (s := s) (i := i + 1) (pl := pl) (c := 116) h.c1 (by omega)
  have b3 := isB_at (s := s) (i := i + 1) (pl := pl) (c := 120) h.c1 (by omega)
  have d1 := digit_at (s := s) (i := i + 2) (pl := pl) (by omega) h.hi
  have d2 := digit_at (s := s) (i := i + 3) (pl := pl) (by omega) h.lo
  unfold escapeS
  rw [b1, b2, b3, if_neg (by decide), if_neg (by decide), if_pos (by decide)]
  show ((digitS s ⟨i + 2, pl, 0⟩).1 * 16 + (digitS s (digitS s ⟨i + 2, pl, 0⟩).2).1, (digitS s (digitS s ⟨i + 2, pl, 0⟩).2).2) = _
  rw [d1]
  show (hexI (gb s (i + 2)) * 16 + (digitS s ⟨i + 3, pl, 0⟩).1, (digitS s ⟨i + 3, pl, 0⟩).2) = _
  rw [d2]
  show (hexI (gb s (i + 2)) * 16 + hexI (gb s (i + 3)), _) = _
  rw [h.val]
theorem hex_item : itemS s ⟨i, pl, 0⟩ = (a, ⟨i + 4, pl, 0⟩) := by
  have hs := h.sz
  have b1 := isB_at (s := s) (i := i) (pl := pl) (c := 92) h.c0 (by omega)
  unfold itemS
  rw [b1, if_pos (by decide)]
  exact hex_escape h
end
theorem step_esc {s : ByteArray} {m : Mc} (h : gb s m.sc.at_ = 92) : stepM s m = ⟨(escapeS s m.sc.adv).2, m.top.put (setN (fun q => decide ((q : Int) = (escapeS s m.sc.adv).1))), m.rest⟩ := by simp [stepM, h]
theorem step_set {s : ByteArray} {m : Mc} (h : gb s m.sc.at_ = 91) : stepM s m = ⟨(setS s m.sc.adv).2, m.top.put (setN (setS s m.sc.adv).1), m.rest⟩ := by simp [stepM, h]
theorem setN_thin (f : Nat → Bool) : ¬ wideT (setN f) := by unfold wideT; simp [setN, depthT, depthL, placesT, placesL]
/-- A text that is one byte. -/
theorem bytes_one {s : ByteArray} {a : Int} (h : HexAt s 0 a) (hs : s.size = 4) : parseS s = ⟨setN (fun q => decide ((q : Int) = a)), 0, 0⟩ := by
  have hr : runF s m0 = runF s ⟨⟨s.size, 0, 0⟩, ⟨[], [setN (fun q => decide ((q : Int) = a))]⟩, []⟩ := by
    rw [runF_go (m := m0) ⟨rfl, by show 0 < s.size; omega⟩, step_esc (m := m0) h.c0]
    show runF s ⟨(escapeS s ⟨0 + 1, 0, 0⟩).2, (⟨[], []⟩ : Lv).put (setN (fun q => decide ((q : Int) = (escapeS s ⟨0 + 1, 0, 0⟩).1))), []⟩ = _
    rw [hex_escape h, hs]
    rfl
  rw [parse_at_end (by omega) hr, done_one, if_neg (setN_thin _)]
theorem may_not {s : ByteArray} {i : Nat} {pl c d : Int} (h : gb s i = d) (hi : i < s.size) (hc : d ≠ c) : mayS s ⟨i, pl, 0⟩ c = ⟨i, pl, 0⟩ ∧ isB s ⟨i, pl, 0⟩ c = false := by
  have := isB_at (s := s) (i := i) (pl := pl) (c := c) h hi
  rw [decide_eq_false hc] at this
  unfold mayS
  rw [this, if_neg (by decide)]
  exact ⟨rfl, rfl⟩
/-- A class of one. -/
theorem bytes_cls {s : ByteArray} {a : Int} (h0 : gb s 0 = 91) (h : HexAt s 1 a) (h5 : gb s 5 = 93) (hs : s.size = 6) : parseS s = ⟨setN (inR a a), 0, 0⟩ := by
  have it : itemsS s ⟨1, 0, 0⟩ = ((a, a), ⟨5, 0, 0⟩) := by
    have hi := hex_item (pl := 0) h
    rw [items_one (by rw [hi]; exact (may_not h5 (by omega) (by decide)).2), hi]
  have hset : setS s ⟨1, 0, 0⟩ = (inR a a, ⟨6, 0, 0⟩) := by
    obtain ⟨m1, m2⟩ := may_not (s := s) (i := 1) (pl := 0) (c := 94) h.c0 (by omega) (by decide)
    unfold setS
    rw [m1, m2]
    dsimp only
    rw [it, if_neg (by decide)]
    dsimp only
    have hb := isB_at (s := s) (i := 5) (pl := 0) (c := 93) h5 (by omega)
    rw [show s.size + 3 = s.size + 2 + 1 from rfl, setGo, if_pos rfl, hb, if_pos (by decide)]
    rfl
  have hr : runF s m0 = runF s ⟨⟨s.size, 0, 0⟩, ⟨[], [setN (inR a a)]⟩, []⟩ := by
    rw [runF_go (m := m0) ⟨rfl, by show 0 < s.size; omega⟩, step_set (m := m0) h0]
    show runF s ⟨(setS s ⟨1, 0, 0⟩).2, (⟨[], []⟩ : Lv).put (setN (setS s ⟨1, 0, 0⟩).1), []⟩ = _
    rw [hset, hs]
    rfl
  rw [parse_at_end (by omega) hr, done_one, if_neg (setN_thin _)]
/-- A class from one to the other. -/
theorem bytes_rng {s : ByteArray} {a b : Int} (h0 : gb s 0 = 91) (h : HexAt s 1 a) (h5 : gb s 5 = 45) (k : HexAt s 6 b) (h10 : gb s 10 = 93) (hs : s.size = 11) :
    parseS s = if a > b then ⟨zN, 5, 2⟩ else ⟨setN (inR a b), 0, 0⟩ := by
  have it : itemsS s ⟨1, 0, 0⟩ = ((a, b), if a > b then ⟨10, 5, 2⟩ else ⟨10, 0, 0⟩) := by
    have hi := hex_item (pl := 0) h
    have hk := hex_item (pl := 0) k
    have hb := isB_at (s := s) (i := 5) (pl := 0) (c := 45) h5 (by omega)
    unfold itemsS
    rw [hi]
    dsimp only
    rw [hb, if_pos (by decide)]
    show ((a, (itemS s ⟨6, 0, 0⟩).1), if a > (itemS s ⟨6, 0, 0⟩).1 then (itemS s ⟨6, 0, 0⟩).2.fail ((5 : Nat) : Int) 2 else (itemS s ⟨6, 0, 0⟩).2) = _
    rw [hk]
    rfl
  obtain ⟨m1, m2⟩ := may_not (s := s) (i := 1) (pl := 0) (c := 94) h.c0 (by omega) (by decide)
  by_cases hgt : a > b
  · rw [if_pos hgt] at it
    have hset : setS s ⟨1, 0, 0⟩ = (inR a b, ⟨10, 5, 2⟩) := by
      unfold setS
      rw [m1, m2]
      dsimp only
      rw [it, if_neg (by decide)]
      dsimp only
      rw [setGo_ne (by dsimp only; decide)]
    have hr : runF s m0 = ⟨⟨10, 5, 2⟩, ⟨[], [setN (inR a b)]⟩, []⟩ := by
      rw [runF_go (m := m0) ⟨rfl, by show 0 < s.size; omega⟩, step_set (m := m0) h0]
      show runF s ⟨(setS s ⟨1, 0, 0⟩).2, (⟨[], []⟩ : Lv).put (setN (setS s ⟨1, 0, 0⟩).1), []⟩ = _
      rw [hset]
      exact runF_stop fun g => absurd g.1 two_ne
    rw [parse_f s (by omega), hr, if_pos hgt]
    rfl
  · rw [if_neg hgt] at it
    have hset : setS s ⟨1, 0, 0⟩ = (inR a b, ⟨11, 0, 0⟩) := by
      unfold setS
      rw [m1, m2]
      dsimp only
      rw [it, if_neg (by decide)]
      dsimp only
      have hb := isB_at (s := s) (i := 10) (pl := 0) (c := 93) h10 (by omega)
      rw [show s.size + 3 = s.size + 2 + 1 from rfl, setGo, if_pos rfl, hb, if_pos (by decide)]
      rfl
    have hr : runF s m0 = runF s ⟨⟨s.size, 0, 0⟩, ⟨[], [setN (inR a b)]⟩, []⟩ := by
      rw [runF_go (m := m0) ⟨rfl, by show 0 < s.size; omega⟩, step_set (m := m0) h0]
      show runF s ⟨(setS s ⟨1, 0, 0⟩).2, (⟨[], []⟩ : Lv).put (setN (setS s ⟨1, 0, 0⟩).1), []⟩ = _
      rw [hset, hs]
      rfl
    rw [parse_at_end (by omega) hr, done_one, if_neg (setN_thin _), if_neg hgt]
/-- The class of one byte, in words. -/
theorem one_same (a : Int) (j : Nat) (hj : j < 4) : clsOf (fun q => decide ((q : Int) = a)) j = clsOf (inR a a) j :=
  clsOf_congr (fun b _ => by unfold inR; by_cases h : (b : Int) = a <;> simp [h] <;> omega) j hj
theorem one_word {a : Nat} (ha : a < 256) : clsOf (fun q => decide ((q : Int) = (a : Int))) (a / 64) = 2 ^ (a % 64) := by
  have hw := w64_clsOf (fun q => decide ((q : Int) = (a : Int))) (a / 64) (by omega)
  have hp := two_pow_lt (a % 64) (by omega)
  refine word_ext hw.1 hw.2 hp.2 hp.1 fun k hk => ?_
  have := has_clsOf (fun q => decide ((q : Int) = (a : Int))) (64 * (a / 64) + k)
  unfold hasB at this
  rw [show (64 * (a / 64) + k) / 64 = a / 64 by omega, show (64 * (a / 64) + k) % 64 = k by omega] at this
  rw [this]
  have e : ((2 : Int) ^ (a % 64)).toNat = 2 ^ (a % 64) := by
    have : ((2 : Int) ^ (a % 64)) = ((2 ^ (a % 64) : Nat) : Int) := by simp
    rw [this]; exact Int.toNat_natCast _
  rw [e, Nat.testBit_two_pow]
  by_cases h : k = a % 64
  · rw [decide_eq_true (by omega), decide_eq_true (by omega)]
  · rw [decide_eq_false (by omega), decide_eq_false (by omega)]
end Go.Proofs.Ytmkcbbamfkafmaa.P
