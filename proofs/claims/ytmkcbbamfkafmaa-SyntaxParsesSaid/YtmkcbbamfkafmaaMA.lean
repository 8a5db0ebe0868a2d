/- Plain facts on classes of bytes: four words of 64 bits. -/
import Derived.WalkKit
import Derived.Test.YtmkcbbamfkafmaaPx11
import Derived.Test.YtmkcbbamfkafmaaPx12
import Derived.Test.YtmkcbbamfkafmaaPx13
import Derived.Test.YtmkcbbamfkafmaaPx14
import Derived.Test.YtmkcbbamfkafmaaPx15
import Derived.Test.YtmkcbbamfkafmaaPx16
import Derived.Test.YtmkcbbamfkafmaaPx2
import Derived.Test.YtmkcbbamfkafmaaPx3
import Derived.Test.YtmkcbbamfkafmaaPx8
namespace Go.Proofs.Ytmkcbbamfkafmaa
open Go.RowKit

def U64 : Int := 18446744073709551616
/-- Four words of 64 bits. -/
def W64 (x : Nat → Int) : Prop := ∀ j, j < 4 → 0 ≤ x j ∧ x j < U64
/-- Is byte b in the class? -/
def hasB (x : Nat → Int) (b : Nat) : Bool := (x (b / 64)).toNat.testBit (b % 64)

theorem u64_lt {n : Int} (h : n < U64) : n < 18446744073709551616 := h

theorem word_ext {a b : Int} (ha : 0 ≤ a) (ha' : a < U64) (hb : 0 ≤ b) (hb' : b < U64) (h : ∀ k, k < 64 → a.toNat.testBit k = b.toNat.testBit k) : a = b := by
  have e : a.toNat = b.toNat := by
    apply Nat.eq_of_testBit_eq
    intro k
    by_cases hk : k < 64
    · exact h k hk
    · have e64 : U64 = ((2 ^ 64 : Nat) : Int) := by unfold U64; rfl
      have hp : (2 : Nat) ^ 64 ≤ 2 ^ k := Nat.pow_le_pow_right (by decide) (by omega)
      have h1 : a.toNat < 2 ^ k := by rw [e64] at ha'; omega
      have h2 : b.toNat < 2 ^ k := by rw [e64] at hb'; omega
      rw [Nat.testBit_lt_two_pow h1, Nat.testBit_lt_two_pow h2]
  omega

theorem cls_ext {x y : Nat → Int} (hx : W64 x) (hy : W64 y) (h : ∀ b, b < 256 → hasB x b = hasB y b) (j : Nat) (hj : j < 4) : x j = y j := by
  refine word_ext (hx j hj).1 (hx j hj).2 (hy j hj).1 (hy j hj).2 fun k hk => ?_
  have := h (64 * j + k) (by omega)
  unfold hasB at this
  rwa [show (64 * j + k) / 64 = j by omega, show (64 * j + k) % 64 = k by omega] at this

theorem toNat_div_pow (a : Int) (ha : 0 ≤ a) (k : Nat) : (a / 2 ^ k).toNat = a.toNat / 2 ^ k := by
  obtain ⟨n, rfl⟩ := Int.eq_ofNat_of_zero_le ha
  have : ((n : Int) / 2 ^ k) = ((n / 2 ^ k : Nat) : Int) := by simp
  rw [this]; rfl

theorem two_pow_lt (k : Nat) (hk : k < 64) : (2 : Int) ^ k < U64 ∧ 0 ≤ (2 : Int) ^ k := by
  have h : (2 : Nat) ^ k < 2 ^ 64 := Nat.pow_lt_pow_right (by decide) hk
  have e : ((2 : Int) ^ k) = ((2 ^ k : Nat) : Int) := by simp
  rw [e]
  generalize 2 ^ k = n at h
  unfold U64
  omega

/-- A word with a bit more. -/
theorem or_bit {a : Int} (ha : 0 ≤ a) (ha' : a < U64) (k : Nat) (hk : k < 64) :
    bits .or .u64 a (2 ^ k) = ((a.toNat ||| 2 ^ k : Nat) : Int) ∧ 0 ≤ bits .or .u64 a (2 ^ k) ∧ bits .or .u64 a (2 ^ k) < U64 ∧
      ∀ q, (bits .or .u64 a (2 ^ k)).toNat.testBit q = (a.toNat.testBit q || decide (k = q)) := by
  have hp := two_pow_lt k hk
  have e : bits .or .u64 a (2 ^ k) = ((a.toNat ||| 2 ^ k : Nat) : Int) := by
    rw [u64_or _ _ ha (u64_lt ha') hp.2 (u64_lt hp.1), toNat_two_pow]
  have hlt : a.toNat ||| 2 ^ k < 2 ^ 64 := Nat.or_lt_two_pow (by have := u64_lt ha'; omega) (Nat.pow_lt_pow_right (by decide) hk)
  refine ⟨e, by rw [e]; omega, by rw [e]; unfold U64; omega, fun q => ?_⟩
  rw [e, Int.toNat_natCast, Nat.testBit_or, Nat.testBit_two_pow]

/-- Is b between the two? -/
def inR (lo hi : Int) (b : Nat) : Bool := decide (lo ≤ b ∧ (b : Int) ≤ hi)
theorem and63 {k : Int} (h0 : 0 ≤ k) (h1 : k < 256) : bits .and .i64 k 63 = k % 64 :=
  bits_mask .i64 31 (by decide) (fun n a b => by rw [IntKind.wrap_i64]; have h : (2 : Int) ^ 31 = 2147483648 := by decide
                                                 rw [h] at b; omega) 6 (by decide) k h0 (by have h : (2 : Int) ^ 31 = 2147483648 := by decide
                                                                                            rw [h]; omega)
def setW (x : Nat → Int) (i : Nat) (v : Int) : Nat → Int := fun j => if j = i then v else x j

/-- The walk's spelling of 'c[b>>6] |= 1 << (b & 63)'. -/
theorem or_step {x : Nat → Int} (hx : W64 x) {b : Int} (h0 : 0 ≤ b) (h1 : b < 256) :
    W64 (setW x (b / 64).toNat (bits .or .u64 (x (b / 64).toNat) (IntKind.u64.wrap (2 ^ (b % 64).toNat)))) ∧
      ∀ q : Nat, q < 256 → hasB (setW x (b / 64).toNat (bits .or .u64 (x (b / 64).toNat) (IntKind.u64.wrap (2 ^ (b % 64).toNat)))) q = (hasB x q || decide ((q : Int) = b)) := by
  have hi : (b / 64).toNat < 4 := by omega
  have hk : (b % 64).toNat < 64 := by omega
  have hp := two_pow_lt _ hk
  have ew : IntKind.u64.wrap ((2 : Int) ^ (b % 64).toNat) = 2 ^ (b % 64).toNat := by
    rw [IntKind.wrap_u64]
    exact Int.emod_eq_of_lt hp.2 (u64_lt hp.1)
  rw [ew]
  obtain ⟨_, h2, h3, h4⟩ := or_bit (hx _ hi).1 (hx _ hi).2 _ hk
  refine ⟨fun j hj => ?_, fun q hq => ?_⟩
  · unfold setW
    split
    · exact ⟨h2, h3⟩
    · exact hx j hj
  · unfold hasB setW
    by_cases e : q / 64 = (b / 64).toNat
    · rw [if_pos e, h4, e]
      congr 1
      apply decide_eq_decide.2
      omega
    · rw [if_neg e, show decide ((q : Int) = b) = false from decide_eq_false (by omega), Bool.or_false]

/-- The walk's spelling of '^c[i]'. -/
def notw (a : Int) : Int := bits .xor .u64 (if IntKind.u64.signed = true then -1 else IntKind.u64.max) a
theorem notw_eq (a : Int) : bits .xor .u64 (if IntKind.u64.signed = true then -1 else IntKind.u64.max) a = notw a := rfl
theorem notw_nat {a : Int} (h0 : 0 ≤ a) (h1 : a < U64) : notw a = ((2 ^ 64 - 1 ^^^ a.toNat : Nat) : Int) := by
  have e : (if IntKind.u64.signed = true then -1 else IntKind.u64.max) = (18446744073709551615 : Int) := by decide
  unfold notw
  rw [e, u64_xor _ _ (by decide) (by decide) h0 (u64_lt h1)]
  rfl
theorem notw_range {a : Int} (h0 : 0 ≤ a) (h1 : a < U64) : 0 ≤ notw a ∧ notw a < U64 := by
  rw [notw_nat h0 h1]
  have : 2 ^ 64 - 1 ^^^ a.toNat < 2 ^ 64 := Nat.xor_lt_two_pow (by decide) (by have := u64_lt h1; omega)
  refine ⟨by omega, ?_⟩
  unfold U64
  omega
theorem notw_bit {a : Int} (h0 : 0 ≤ a) (h1 : a < U64) {k : Nat} (hk : k < 64) : (notw a).toNat.testBit k = !a.toNat.testBit k := by
  rw [notw_nat h0 h1, Int.toNat_natCast, Nat.testBit_xor, Nat.testBit_two_pow_sub_one]
  simp [hk]
theorem not_cls {x : Nat → Int} (hx : W64 x) : W64 (fun j => notw (x j)) ∧ ∀ b : Nat, b < 256 → hasB (fun j => notw (x j)) b = !hasB x b :=
  ⟨fun j hj => notw_range (hx j hj).1 (hx j hj).2, fun b hb => notw_bit (hx _ (by omega)).1 (hx _ (by omega)).2 (by omega)⟩

def orw (a b : Int) : Int := bits .or .u64 a b
theorem or_cls {x y : Nat → Int} (hx : W64 x) (hy : W64 y) : W64 (fun j => orw (x j) (y j)) ∧ ∀ b : Nat, b < 256 → hasB (fun j => orw (x j) (y j)) b = (hasB x b || hasB y b) := by
  have e : ∀ j, j < 4 → orw (x j) (y j) = (((x j).toNat ||| (y j).toNat : Nat) : Int) := fun j hj => by
    unfold orw
    exact u64_or _ _ (hx j hj).1 (u64_lt (hx j hj).2) (hy j hj).1 (u64_lt (hy j hj).2)
  refine ⟨fun j hj => ?_, fun b hb => ?_⟩
  · show 0 ≤ orw (x j) (y j) ∧ orw (x j) (y j) < U64
    rw [e j hj]
    have h1 := u64_lt (hx j hj).2
    have h2 := u64_lt (hy j hj).2
    have : (x j).toNat ||| (y j).toNat < 2 ^ 64 := Nat.or_lt_two_pow (by omega) (by omega)
    refine ⟨by omega, ?_⟩
    unfold U64
    omega
  · show (orw (x (b / 64)) (y (b / 64))).toNat.testBit (b % 64) = _
    rw [e _ (by omega), Int.toNat_natCast, Nat.testBit_or]
    rfl

theorem div_pow_range {a : Int} (h0 : 0 ≤ a) (h1 : a < U64) (k : Nat) : 0 ≤ a / 2 ^ k ∧ a / 2 ^ k < U64 :=
  ⟨Int.ediv_nonneg h0 (Int.le_of_lt (Int.pow_pos (by decide))), Int.lt_of_le_of_lt (Int.ediv_le_self _ h0) h1⟩
theorem half_step {a : Int} (h0 : 0 ≤ a) (h1 : a < U64) (k : Nat) : IntKind.u64.wrap ((a / 2 ^ k).tdiv 2) = a / 2 ^ (k + 1) := by
  obtain ⟨p, q⟩ := div_pow_range h0 h1 k
  have q := u64_lt q
  rw [Int.pow_succ, ← Int.ediv_ediv_of_nonneg (Int.le_of_lt (Int.pow_pos (by decide)))]
  generalize a / 2 ^ k = m at p q
  rw [Int.tdiv_eq_ediv_of_nonneg p, IntKind.wrap_u64]
  omega
theorem odd_spelt {a : Int} (h0 : 0 ≤ a) (h1 : a < U64) (k : Nat) : ((a / 2 ^ k).tmod 2 == 1) = a.toNat.testBit k := by
  rw [Nat.testBit_eq_decide_div_mod_eq, ← toNat_div_pow a h0 k]
  obtain ⟨p, q⟩ := div_pow_range h0 h1 k
  generalize a / 2 ^ k = m at p q
  rw [Int.tmod_eq_emod_of_nonneg p, Bool.eq_iff_iff, beq_iff_eq, decide_eq_true_iff]
  omega
theorem double_step (k : Nat) (hk : k + 1 < 64) : IntKind.u64.wrap ((2 : Int) ^ k * 2) = 2 ^ (k + 1) := by
  rw [← Int.pow_succ, IntKind.wrap_u64]
  have := two_pow_lt (k + 1) hk
  exact Int.emod_eq_of_lt this.2 (u64_lt this.1)
/-- A bit that isn't there is put by a sum. -/
theorem add_bit {a : Int} (h0 : 0 ≤ a) (h1 : a < U64) (k : Nat) (hk : k < 64) (hb : a.toNat.testBit k = false) : IntKind.u64.wrap (a + 2 ^ k) = bits .or .u64 a (2 ^ k) := by
  obtain ⟨e, h2, h3, h4⟩ := or_bit h0 h1 k hk
  have hs : a.toNat ||| 2 ^ k = a.toNat + 2 ^ k := by
    have hand : a.toNat &&& 2 ^ k = 0 := by
      apply Nat.eq_of_testBit_eq
      intro i
      rw [Nat.testBit_and, Nat.testBit_two_pow, Nat.zero_testBit]
      by_cases hi : k = i
      · subst hi; simp [hb]
      · simp [hi]
    have ha : a.toNat < 2 ^ 64 := by have := u64_lt h1; omega
    have hk2 : 2 ^ k < 2 ^ 64 := Nat.pow_lt_pow_right (by decide) hk
    have hbv := BitVec.add_eq_or_of_and_eq_zero (BitVec.ofNat 65 a.toNat) (BitVec.ofNat 65 (2 ^ k)) (by
      apply BitVec.eq_of_toNat_eq
      rw [BitVec.toNat_and, BitVec.toNat_ofNat, BitVec.toNat_ofNat, Nat.mod_eq_of_lt (Nat.lt_of_lt_of_le ha (by decide)), Nat.mod_eq_of_lt (Nat.lt_of_lt_of_le hk2 (by decide)), hand]
      rfl)
    have h65 := congrArg BitVec.toNat hbv
    rw [BitVec.toNat_add, BitVec.toNat_or, BitVec.toNat_ofNat, BitVec.toNat_ofNat, Nat.mod_eq_of_lt (Nat.lt_of_lt_of_le ha (by decide)), Nat.mod_eq_of_lt (Nat.lt_of_lt_of_le hk2 (by decide))] at h65
    rw [← h65]
    generalize 2 ^ k = n at hk2
    omega
  have e2 : a + 2 ^ k = ((a.toNat ||| 2 ^ k : Nat) : Int) := by
    rw [hs]
    have : ((2 : Int) ^ k) = ((2 ^ k : Nat) : Int) := by simp
    rw [this]
    omega
  rw [e2, ← e, IntKind.wrap_u64]
  exact Int.emod_eq_of_lt h2 (u64_lt h3)

theorem put_step {x : Nat → Int} (hx : W64 x) {b : Int} (h0 : 0 ≤ b) (h1 : b < 256) {k : Nat} (hk : (k : Int) = b % 64) (hB : hasB x b.toNat = false) :
    W64 (setW x (b / 64).toNat (IntKind.u64.wrap (x (b / 64).toNat + 2 ^ k))) ∧
      ∀ q : Nat, q < 256 → hasB (setW x (b / 64).toNat (IntKind.u64.wrap (x (b / 64).toNat + 2 ^ k))) q = (hasB x q || decide ((q : Int) = b)) := by
  have hw := hx (b / 64).toNat (by omega)
  have ek : (b % 64).toNat = k := by omega
  have hbit : (x (b / 64).toNat).toNat.testBit k = false := by
    unfold hasB at hB
    rwa [show b.toNat / 64 = (b / 64).toNat by omega, show b.toNat % 64 = k by omega] at hB
  have hp := two_pow_lt k (by omega)
  have ew : IntKind.u64.wrap ((2 : Int) ^ k) = 2 ^ k := by
    rw [IntKind.wrap_u64]
    exact Int.emod_eq_of_lt hp.2 (u64_lt hp.1)
  have := or_step hx h0 h1
  rw [ek, ew] at this
  rw [add_bit hw.1 hw.2 k (by omega) hbit]
  exact this

/-- The words of the class of those bytes that f tells. -/
def cwn (f : Nat → Bool) (j : Nat) : Nat → Nat
  | 0 => 0
  | n + 1 => cwn f j n + (if f (64 * j + n) then 2 ^ n else 0)
theorem cwn_lt (f : Nat → Bool) (j : Nat) : ∀ n, cwn f j n < 2 ^ n
  | 0 => by simp [cwn]
  | n + 1 => by
    have := cwn_lt f j n
    rw [cwn, Nat.pow_succ]
    split <;> omega
theorem cwn_bit (f : Nat → Bool) (j : Nat) : ∀ n k, k < n → (cwn f j n).testBit k = f (64 * j + k)
  | 0, k, h => by omega
  | n + 1, k, h => by
    have hl := cwn_lt f j n
    rw [cwn]
    by_cases e : k = n
    · subst e
      split
      · rename_i hf
        rw [Nat.add_comm, Nat.testBit_two_pow_add_eq, Nat.testBit_lt_two_pow hl, hf]
        rfl
      · rename_i hf
        rw [Nat.add_zero, Nat.testBit_lt_two_pow hl]
        simpa using hf
    · have hk : k < n := by omega
      split
      · rw [Nat.add_comm, Nat.testBit_two_pow_add_gt hk, cwn_bit f j n k hk]
      · rw [Nat.add_zero, cwn_bit f j n k hk]
def clsOf (f : Nat → Bool) (j : Nat) : Int := (cwn f j 64 : Nat)
theorem w64_clsOf (f : Nat → Bool) : W64 (clsOf f) := fun j _ => by
  have := cwn_lt f j 64
  unfold clsOf U64
  omega
theorem has_clsOf (f : Nat → Bool) (b : Nat) : hasB (clsOf f) b = f b := by
  unfold hasB clsOf
  rw [Int.toNat_natCast, cwn_bit f _ 64 _ (by omega), show 64 * (b / 64) + b % 64 = b by omega]
theorem clsOf_eq {x : Nat → Int} (hx : W64 x) {f : Nat → Bool} (h : ∀ b, b < 256 → hasB x b = f b) (j : Nat) (hj : j < 4) : x j = clsOf f j :=
  cls_ext hx (w64_clsOf f) (fun b hb => by rw [has_clsOf, h b hb]) j hj
def memB (l : List Int) (b : Nat) : Bool := decide ((b : Int) ∈ l)
end Go.Proofs.Ytmkcbbamfkafmaa
/- The reader of expressions, in plain words: the scanner, the machine with its stack, the document's reader. -/
namespace Go.Proofs.Ytmkcbbamfkafmaa.P
open Go.RowKit Go.Proofs.Ytmkcbbamfkafmaa
set_option linter.unusedVariables false
abbrev T := S28
/-- The i-th byte of a text. -/
def gb (s : ByteArray) (i : Nat) : Int := if h : i < s.size then ((s[i]'h).toNat : Int) else 0
theorem gb_range (s : ByteArray) (i : Nat) : 0 ≤ gb s i ∧ gb s i < 256 := by
  unfold gb
  split
  · rename_i h
    have := (s[i]'h).toNat_lt
    omega
  · omega
/-- Where a reader is: the next byte, the place and the number of an error. -/
structure Sc where
  at_ : Nat
  pl : Int
  e : Int
namespace Sc
def fail (st : Sc) (p e : Int) : Sc := if st.e = 0 then ⟨st.at_, p, e⟩ else st
def adv (st : Sc) : Sc := ⟨st.at_ + 1, st.pl, st.e⟩
end Sc
def isB (s : ByteArray) (st : Sc) (c : Int) : Bool := decide (st.e = 0) && (decide (st.at_ < s.size) && decide (gb s st.at_ = c))
def mayS (s : ByteArray) (st : Sc) (c : Int) : Sc := if isB s st c = true then st.adv else st
def mustS (s : ByteArray) (st : Sc) (c : Int) : Sc := if isB s st c = true then st.adv else st.fail st.at_ 2
def hexI (c : Int) : Int := if 48 ≤ c ∧ c ≤ 57 then c - 48 else if 97 ≤ c ∧ c ≤ 102 then c - 87 else -1
def digitS (s : ByteArray) (st : Sc) : Int × Sc :=
  if st.e = 0 ∧ st.at_ < s.size ∧ 0 ≤ hexI (gb s st.at_) then (hexI (gb s st.at_), st.adv) else (0, st.fail st.at_ 2)
/-- May it stand behind a \ ? -/
def escC (c : Int) : Bool := c == 40 || c == 41 || c == 91 || c == 93 || c == 123 || c == 125 || c == 124 || c == 42 || c == 43 || c == 63 || c == 46 || c == 92 || c == 45 || c == 94
/-- May it not stand in a class? -/
def inC (c : Int) : Bool := c == 93 || c == 92 || c == 45 || c == 94
def escapeS (s : ByteArray) (st : Sc) : Int × Sc :=
  if isB s st 110 = true then (10, st.adv) else if isB s st 116 = true then (9, st.adv) else if isB s st 120 = true then
    ((digitS s st.adv).1 * 16 + (digitS s (digitS s st.adv).2).1, (digitS s (digitS s st.adv).2).2)
  else if st.at_ < s.size ∧ escC (gb s st.at_) = true then (gb s st.at_, st.adv) else (0, st.fail st.at_ 2)
def itemS (s : ByteArray) (st : Sc) : Int × Sc :=
  if isB s st 92 = true then escapeS s st.adv else if st.e = 0 ∧ st.at_ < s.size ∧ inC (gb s st.at_) = false then (gb s st.at_, st.adv) else (0, st.fail st.at_ 2)
/-- From which byte to which. -/
def itemsS (s : ByteArray) (st : Sc) : (Int × Int) × Sc :=
  if isB s (itemS s st).2 45 = true then
    (((itemS s st).1, (itemS s (itemS s st).2.adv).1), if (itemS s st).1 > (itemS s (itemS s st).2.adv).1 then (itemS s (itemS s st).2.adv).2.fail (itemS s st).2.at_ 2 else (itemS s (itemS s st).2.adv).2)
  else (((itemS s st).1, (itemS s st).1), (itemS s st).2)
def setGo (s : ByteArray) : Nat → (Nat → Bool) → Sc → (Nat → Bool) × Sc
  | 0, f, st => (f, st)
  | n + 1, f, st => if st.e = 0 then (if isB s st 93 = true then (f, st.adv) else setGo s n (fun q => f q || inR (itemsS s st).1.1 (itemsS s st).1.2 q) (itemsS s st).2) else (f, st)
def setS (s : ByteArray) (st : Sc) : (Nat → Bool) × Sc :=
  let st1 := mayS s st 94
  let r := setGo s (s.size + 3) (inR (itemsS s st1).1.1 (itemsS s st1).1.2) (itemsS s st1).2
  (if isB s st 94 = true then (fun q => !r.1 q) else r.1, r.2)
def digC (s : ByteArray) (a : Nat) : Prop := a < s.size ∧ 48 ≤ gb s a ∧ gb s a ≤ 57
instance (s : ByteArray) (a : Nat) : Decidable (digC s a) := inferInstanceAs (Decidable (_ ∧ _))
def numGo (s : ByteArray) : Nat → Int → Nat → Int × Nat
  | 0, n, a => (n, a)
  | k + 1, n, a => if digC s a then numGo s k (min (10 * n + (gb s a - 48)) 2147483648) (a + 1) else (n, a)
def numberS (s : ByteArray) (st : Sc) : Int × Sc :=
  if st.e = 0 then
    ((numGo s (s.size - st.at_) 0 st.at_).1,
      if (numGo s (s.size - st.at_) 0 st.at_).2 = st.at_ then ⟨st.at_, st.at_, 2⟩
      else if (numGo s (s.size - st.at_) 0 st.at_).1 > 2147483647 then ⟨(numGo s (s.size - st.at_) 0 st.at_).2, st.at_, 3⟩ else ⟨(numGo s (s.size - st.at_) 0 st.at_).2, st.pl, 0⟩)
  else (0, st)
/-- The second number, where there is a comma. -/
def times2 (s : ByteArray) (a : Int) (st : Sc) : Int × Sc :=
  if isB s st 44 = true then (if isB s st.adv 125 = true then (-1, st.adv) else numberS s st.adv) else (a, st)
def timesS (s : ByteArray) (st : Sc) : (Int × Int) × Sc :=
  let a := numberS s st
  let b := times2 s a.1 a.2
  let m := mustS s b.2 125
  ((a.1, b.1), if b.1 ≠ -1 ∧ a.1 > b.1 then m.fail ((st.at_ : Int) - 1) 2 else m)

/-! #### the machine -/
def zN : T := ⟨0, ⟨0, 0, 0, 0⟩, [], 0, 0⟩
def oneN (kind : Int) (l : List T) : T := match l with
  | [] => zN
  | [x] => x
  | x :: y :: r => ⟨kind, ⟨0, 0, 0, 0⟩, x :: y :: r, 0, 0⟩
def setN (f : Nat → Bool) : T := ⟨1, ⟨clsOf f 0, clsOf f 1, clsOf f 2, clsOf f 3⟩, [], 0, 0⟩
def timN (t : T) (lo hi : Int) : T := ⟨4, ⟨0, 0, 0, 0⟩, [t], lo, hi⟩
/-- A level: its rows, and the row that is being read. -/
structure Lv where
  rows : List T
  row : List T
namespace Lv
def close (v : Lv) : Lv := ⟨v.rows ++ [oneN 2 v.row], []⟩
def put (v : Lv) (t : T) : Lv := ⟨v.rows, v.row ++ [t]⟩
def rep (v : Lv) (lo hi : Int) : Lv := ⟨v.rows, v.row.dropLast ++ [timN (v.row.getLastD zN) lo hi]⟩
def done (v : Lv) : T := oneN 3 v.close.rows
end Lv
structure Mc where
  sc : Sc
  top : Lv
  rest : List Lv
namespace Mc
def repeat_ (m : Mc) (at_ lo hi : Int) : Mc := if m.top.row = [] then ⟨m.sc.fail at_ 2, m.top, m.rest⟩ else ⟨m.sc, m.top.rep lo hi, m.rest⟩
def put (m : Mc) (t : T) : Mc := ⟨m.sc, m.top.put t, m.rest⟩
end Mc
def stepM (s : ByteArray) (m : Mc) : Mc :=
  let at_ := m.sc.at_
  let c := gb s at_
  let m1 : Mc := ⟨m.sc.adv, m.top, m.rest⟩
  if c = 40 then ⟨m1.sc, ⟨[], []⟩, m.top :: m.rest⟩
  else if c = 41 then (match m.rest with
    | [] => ⟨m1.sc.fail at_ 2, m.top, []⟩
    | p :: r => ⟨m1.sc, p.put m.top.done, r⟩)
  else if c = 124 then ⟨m1.sc, m.top.close, m.rest⟩
  else if c = 42 then m1.repeat_ at_ 0 (-1)
  else if c = 43 then m1.repeat_ at_ 1 (-1)
  else if c = 63 then m1.repeat_ at_ 0 1
  else if c = 123 then (if m.top.row = [] then ⟨m1.sc.fail at_ 2, m.top, m.rest⟩ else ⟨(timesS s m1.sc).2, m.top.rep (timesS s m1.sc).1.1 (timesS s m1.sc).1.2, m.rest⟩)
  else if c = 46 then m1.put (setN (inR 0 255))
  else if c = 91 then ⟨(setS s m1.sc).2, m.top.put (setN (setS s m1.sc).1), m.rest⟩
  else if c = 92 then ⟨(escapeS s m1.sc).2, m.top.put (setN (fun q => decide ((q : Int) = (escapeS s m1.sc).1))), m.rest⟩
  else if c = 93 ∨ c = 125 then ⟨m1.sc.fail at_ 2, m.top, m.rest⟩
  else m1.put (setN (fun q => decide ((q : Int) = c)))
def goes (s : ByteArray) (st : Sc) : Prop := st.e = 0 ∧ st.at_ < s.size
instance (s : ByteArray) (st : Sc) : Decidable (goes s st) := inferInstanceAs (Decidable (_ ∧ _))
def runM (s : ByteArray) : Nat → Mc → Mc
  | 0, m => m
  | n + 1, m => if goes s m.sc then runM s n (stepM s m) else m
def endM (m : Mc) : Sc := match m.rest with
  | [] => m.sc
  | _ :: _ => m.sc.fail m.sc.at_ 2
mutual
def depthT : T → Nat
  | ⟨_, _, ps, _, _⟩ => depthL ps + 1
def depthL : List T → Nat
  | [] => 0
  | p :: ps => max (depthT p) (depthL ps)
end
mutual
def placesT : T → Nat
  | ⟨k, _, ps, _, _⟩ => (if k = 1 then 1 else 0) + placesL ps
def placesL : List T → Nat
  | [] => 0
  | p :: ps => placesT p + placesL ps
end
def wideT (t : T) : Prop := depthT t > 20 ∨ placesT t > 40
instance (t : T) : Decidable (wideT t) := inferInstanceAs (Decidable (_ ∨ _))
def m0 : Mc := ⟨⟨0, 0, 0⟩, ⟨[], []⟩, []⟩
/-- What a text is read as: the tree, the place, the error. -/
structure Out where
  t : T
  pl : Int
  e : Int
def parseS (s : ByteArray) : Out :=
  if s.size > 400 then ⟨zN, 0, 3⟩ else
  let m := runM s (s.size + 1) m0
  if (endM m).e ≠ 0 then ⟨zN, (endM m).pl, (endM m).e⟩ else if wideT m.top.done then ⟨zN, 0, 3⟩ else ⟨m.top.done, 0, 0⟩
end Go.Proofs.Ytmkcbbamfkafmaa.P
/- The document's reader, in plain words; it and the machine come to the same. -/
namespace Go.Proofs.Ytmkcbbamfkafmaa.P
open Go.RowKit Go.Proofs.Ytmkcbbamfkafmaa
set_option linter.unusedVariables false
set_option linter.unusedSimpArgs false
variable (s : ByteArray)

/-! #### where the scanner stops -/
def Le (a : Nat) (st : Sc) : Prop := a ≤ st.at_ ∧ st.at_ ≤ s.size
variable {s}
theorem Le.refl {st : Sc} (h : st.at_ ≤ s.size) : Le s st.at_ st := ⟨Nat.le_refl _, h⟩
theorem Le.trans {a : Nat} {st st' : Sc} (h : Le s a st) (h' : Le s st.at_ st') : Le s a st' := ⟨Nat.le_trans h.1 h'.1, h'.2⟩
theorem fail_at (st : Sc) (p e : Int) : (st.fail p e).at_ = st.at_ := by unfold Sc.fail; split <;> rfl
theorem Le.fail {a : Nat} {st : Sc} (h : Le s a st) (p e : Int) : Le s a (st.fail p e) := by unfold Le; rw [fail_at]; exact h
theorem Le.adv {a : Nat} {st : Sc} (h : Le s a st) (h' : st.at_ < s.size) : Le s a st.adv := ⟨by have := h.1; show a ≤ st.at_ + 1; omega, h'⟩
theorem isB_lt {st : Sc} {c : Int} (h : isB s st c = true) : st.e = 0 ∧ st.at_ < s.size ∧ gb s st.at_ = c := by
  unfold isB at h
  simpa using h
theorem le_may {st : Sc} (h : st.at_ ≤ s.size) (c : Int) : Le s st.at_ (mayS s st c) := by
  unfold mayS
  split
  · rename_i hb; exact (Le.refl h).adv (isB_lt hb).2.1
  · exact Le.refl h
theorem le_must {st : Sc} (h : st.at_ ≤ s.size) (c : Int) : Le s st.at_ (mustS s st c) := by
  unfold mustS
  split
  · rename_i hb; exact (Le.refl h).adv (isB_lt hb).2.1
  · exact (Le.refl h).fail _ _
theorem le_digit {st : Sc} (h : st.at_ ≤ s.size) : Le s st.at_ (digitS s st).2 := by
  unfold digitS
  split
  · rename_i hb; exact (Le.refl h).adv hb.2.1
  · exact (Le.refl h).fail _ _
theorem le_escape {st : Sc} (h : st.at_ ≤ s.size) : Le s st.at_ (escapeS s st).2 := by
  unfold escapeS
  split
  · rename_i hb; exact (Le.refl h).adv (isB_lt hb).2.1
  split
  · rename_i hb; exact (Le.refl h).adv (isB_lt hb).2.1
  split
  · rename_i hb
    have h1 := (Le.refl h).adv (isB_lt hb).2.1
    have h2 := le_digit h1.2
    exact h1.trans (h2.trans (le_digit h2.2))
  split
  · rename_i hb; exact (Le.refl h).adv hb.1
  · exact (Le.refl h).fail _ _
theorem le_item {st : Sc} (h : st.at_ ≤ s.size) : Le s st.at_ (itemS s st).2 := by
  unfold itemS
  split
  · rename_i hb
    have h1 := (Le.refl h).adv (isB_lt hb).2.1
    exact h1.trans (le_escape h1.2)
  split
  · rename_i hb; exact (Le.refl h).adv hb.2.1
  · exact (Le.refl h).fail _ _
theorem le_items {st : Sc} (h : st.at_ ≤ s.size) : Le s st.at_ (itemsS s st).2 := by
  have h0 := le_item h
  unfold itemsS
  split
  · rename_i hb
    have h1 := h0.trans ((Le.refl h0.2).adv (isB_lt hb).2.1)
    have h2 := h1.trans (le_item h1.2)
    dsimp only
    split
    · exact h2.fail _ _
    · exact h2
  · exact h0
theorem le_setGo : ∀ (n : Nat) (f : Nat → Bool) {st : Sc}, st.at_ ≤ s.size → Le s st.at_ (setGo s n f st).2
  | 0, f, st, h => Le.refl h
  | n + 1, f, st, h => by
    rw [setGo]
    split
    · split
      · rename_i hb; exact (Le.refl h).adv (isB_lt hb).2.1
      · exact (le_items h).trans (le_setGo n _ (le_items h).2)
    · exact Le.refl h
theorem le_set {st : Sc} (h : st.at_ ≤ s.size) : Le s st.at_ (setS s st).2 := by
  unfold setS
  have h1 := le_may h 94
  have h2 := h1.trans (le_items h1.2)
  exact h2.trans (le_setGo _ _ h2.2)
theorem numGo_at : ∀ (k : Nat) (n : Int) (a : Nat), a ≤ s.size → a ≤ (numGo s k n a).2 ∧ (numGo s k n a).2 ≤ s.size
  | 0, n, a, h => ⟨Nat.le_refl _, h⟩
  | k + 1, n, a, h => by
    rw [numGo]
    split
    · rename_i hd
      have := numGo_at k (min (10 * n + (gb s a - 48)) 2147483648) (a + 1) (by have := hd.1; omega)
      omega
    · exact ⟨Nat.le_refl _, h⟩
theorem le_number {st : Sc} (h : st.at_ ≤ s.size) : Le s st.at_ (numberS s st).2 := by
  unfold numberS
  split
  · have := numGo_at (s := s) (s.size - st.at_) 0 st.at_ h
    dsimp only
    split
    · exact Le.refl (st := ⟨st.at_, st.at_, 2⟩) h
    split
    · exact this
    · exact this
  · exact Le.refl h
theorem le_times2 {st : Sc} (a : Int) (h : st.at_ ≤ s.size) : Le s st.at_ (times2 s a st).2 := by
  unfold times2
  split
  · rename_i hb
    have h1 := (Le.refl h).adv (isB_lt hb).2.1
    split
    · exact h1
    · exact h1.trans (le_number h1.2)
  · exact Le.refl h
theorem le_times {st : Sc} (h : st.at_ ≤ s.size) : Le s st.at_ (timesS s st).2 := by
  unfold timesS
  have h1 := le_number h
  have h2 := h1.trans (le_times2 (numberS s st).1 h1.2)
  have h3 := h2.trans (le_must h2.2 125)
  dsimp only
  split
  · exact h3.fail _ _
  · exact h3
theorem step_at {m : Mc} (h : goes s m.sc) : Le s (m.sc.at_ + 1) (stepM s m).sc := by
  have h1 : Le s (m.sc.at_ + 1) m.sc.adv := ⟨Nat.le_refl _, h.2⟩
  have h2 : m.sc.adv.at_ ≤ s.size := h.2
  have hi : ∀ {c : Prop} [Decidable c] {a b : Mc}, Le s (m.sc.at_ + 1) a.sc → Le s (m.sc.at_ + 1) b.sc → Le s (m.sc.at_ + 1) (if c then a else b).sc := fun {c} _ {a b} ha hb => by
    split
    · exact ha
    · exact hb
  unfold stepM Mc.repeat_ Mc.put
  dsimp only
  refine hi h1 (hi ?_ (hi h1 (hi (hi (h1.fail _ _) h1) (hi (hi (h1.fail _ _) h1) (hi (hi (h1.fail _ _) h1) (hi (hi (h1.fail _ _) (h1.trans (le_times h2))) (hi h1 (hi (h1.trans (le_set h2)) (hi (h1.trans (le_escape h2)) (hi (h1.fail _ _) h1))))))))))
  split
  · exact h1.fail _ _
  · exact h1

/-! #### the machine's run -/
theorem runM_fuel : ∀ (n k : Nat) (m : Mc), s.size - m.sc.at_ < n → s.size - m.sc.at_ < k → runM s n m = runM s k m
  | 0, k, m, h, h' => by omega
  | n + 1, 0, m, h, h' => by omega
  | n + 1, k + 1, m, h, h' => by
    rw [runM, runM]
    split
    · rename_i hg
      have h1 := step_at hg
      have h2 := hg.2
      have h3 := h1.1
      exact runM_fuel n k _ (by omega) (by omega)
    · rfl
variable (s) in
def runF (m : Mc) : Mc := runM s (s.size + 1 - m.sc.at_) m
theorem runF_go {m : Mc} (h : goes s m.sc) : runF s m = runF s (stepM s m) := by
  have h1 := step_at h
  have h2 := h.2
  have h3 := h1.1
  have h4 := h1.2
  unfold runF
  obtain ⟨n, hn⟩ : ∃ n, s.size + 1 - m.sc.at_ = n + 1 := ⟨s.size - m.sc.at_, by omega⟩
  rw [hn, runM, if_pos h]
  exact runM_fuel _ _ _ (by omega) (by omega)
theorem runF_stop {m : Mc} (h : ¬ goes s m.sc) : runF s m = m := by
  unfold runF
  obtain ⟨n, hn⟩ : ∃ n, s.size + 1 - m.sc.at_ = n := ⟨_, rfl⟩
  rw [hn]
  cases n with
  | zero => rfl
  | succ n => rw [runM, if_neg h]

/-! #### the document's reader -/
variable (s) in
def numGoR : Nat → Int → Nat → Int × Nat
  | 0, n, a => (n, a)
  | k + 1, n, a => if digC s a then numGoR k (if n ≤ 2147483647 then 10 * n + (gb s a - 48) else n) (a + 1) else (n, a)
theorem numGoR_eq : ∀ (k : Nat) (n : Int) (a : Nat), 0 ≤ n → numGo s k (min n 2147483648) a = (min (numGoR s k n a).1 2147483648, (numGoR s k n a).2) ∧ 0 ≤ (numGoR s k n a).1
  | 0, n, a, h => ⟨rfl, h⟩
  | k + 1, n, a, h => by
    rw [numGo, numGoR]
    split
    · rename_i hd
      obtain ⟨_, h1, h2⟩ := hd
      have h3 : min (10 * min n 2147483648 + (gb s a - 48)) 2147483648 = min (if n ≤ 2147483647 then 10 * n + (gb s a - 48) else n) 2147483648 := by
        split <;> omega
      rw [h3]
      exact numGoR_eq k _ _ (by split <;> omega)
    · exact ⟨rfl, h⟩
variable (s) in
def numberR (st : Sc) : Int × Sc :=
  if st.e = 0 then ((numGoR s (s.size - st.at_) 0 st.at_).1, (numberS s st).2) else (0, st)
theorem numberR_sc (st : Sc) : (numberR s st).2 = (numberS s st).2 := by
  unfold numberR
  split
  · rfl
  · unfold numberS; rename_i h; rw [if_neg h]
theorem numberR_val (st : Sc) : (numberS s st).1 = min (numberR s st).1 2147483648 ∧ 0 ≤ (numberR s st).1 := by
  have h := numGoR_eq (s := s) (s.size - st.at_) 0 st.at_ (by omega)
  rw [show min (0 : Int) 2147483648 = 0 from rfl] at h
  unfold numberR numberS
  split
  · exact ⟨congrArg Prod.fst h.1, h.2⟩
  · exact ⟨rfl, by show (0 : Int) ≤ 0; omega⟩
theorem number_big (st : Sc) (h : (numberS s st).2.e = 0) : (numberS s st).1 ≤ 2147483647 := by
  unfold numberS at h ⊢
  split at h
  · rename_i h0
    rw [if_pos h0]
    dsimp only at h ⊢
    split at h
    · cases h
    split at h
    · cases h
    · omega
  · rename_i h0; exact absurd h h0
theorem numberR_same (st : Sc) (h : (numberS s st).2.e = 0) : (numberR s st).1 = (numberS s st).1 := by
  have h1 := numberR_val (s := s) st
  have h2 := number_big st h
  omega
variable (s) in
def times2R (a : Int) (st : Sc) : Int × Sc :=
  if isB s st 44 = true then (if isB s st.adv 125 = true then (-1, st.adv) else numberR s st.adv) else (a, st)
theorem times2R_sc (a b : Int) (st : Sc) : (times2R s a st).2 = (times2 s b st).2 := by
  unfold times2R times2
  split
  · split
    · rfl
    · exact numberR_sc _
  · rfl
theorem times2R_same (a : Int) (st : Sc) (h : (times2 s a st).2.e = 0) : (times2R s a st).1 = (times2 s a st).1 := by
  unfold times2R times2 at *
  split
  · rename_i h1
    rw [if_pos h1] at h
    split
    · rfl
    · rename_i h2
      rw [if_neg h2] at h
      exact numberR_same _ h
  · rfl
theorem fail_ne {st : Sc} (h : st.e ≠ 0) (p e : Int) : st.fail p e = st := by unfold Sc.fail; rw [if_neg h]
theorem isB_ne {st : Sc} (h : st.e ≠ 0) (c : Int) : isB s st c = false := by unfold isB; rw [decide_eq_false h]; rfl
theorem must_ne {st : Sc} (h : st.e ≠ 0) (c : Int) : mustS s st c = st := by
  unfold mustS
  rw [isB_ne h, if_neg (by decide), fail_ne h]
theorem number_ne {st : Sc} (h : st.e ≠ 0) : numberS s st = (0, st) := by unfold numberS; rw [if_neg h]
theorem times2_ne {st : Sc} (h : st.e ≠ 0) (a : Int) : times2 s a st = (a, st) := by
  unfold times2
  rw [isB_ne h, if_neg (by decide)]
variable (s) in
def timesR (st : Sc) : (Int × Int) × Sc :=
  let a := numberR s st
  let b := times2R s a.1 a.2
  let m := mustS s b.2 125
  ((a.1, b.1), if b.1 ≥ 0 ∧ a.1 > b.1 then m.fail ((st.at_ : Int) - 1) 2 else m)
theorem number_nonneg (st : Sc) : 0 ≤ (numberS s st).1 := by have := numberR_val (s := s) st; omega
theorem times2_lo (a : Int) (st : Sc) (ha : 0 ≤ a) : -1 ≤ (times2 s a st).1 := by
  unfold times2
  split
  · split
    · show (-1 : Int) ≤ -1; omega
    · have := number_nonneg (s := s) st.adv; omega
  · show -1 ≤ a; omega
theorem timesR_eq (st : Sc) : (timesR s st).2 = (timesS s st).2 ∧ ((timesS s st).2.e = 0 → (timesR s st).1 = (timesS s st).1) := by
  unfold timesR timesS
  dsimp only
  by_cases h1 : (numberS s st).2.e = 0
  · have e1 := numberR_same st h1
    rw [e1, numberR_sc, times2R_sc _ (numberS s st).1]
    by_cases h2 : (times2 s (numberS s st).1 (numberS s st).2).2.e = 0
    · have e2 := times2R_same _ _ h2
      rw [e2]
      have h3 := times2_lo (s := s) (numberS s st).1 (numberS s st).2 (number_nonneg st)
      refine ⟨?_, fun _ => rfl⟩
      congr 1
      apply propext
      constructor
      · rintro ⟨a, b⟩; exact ⟨by omega, b⟩
      · rintro ⟨a, b⟩; exact ⟨by omega, b⟩
    · rw [must_ne h2, fail_ne h2]
      constructor
      · split <;> split <;> rfl
      · intro h
        split at h <;> exact absurd h h2
  · rw [numberR_sc, times2R_sc _ (numberS s st).1, times2_ne h1, must_ne h1, fail_ne h1]
    constructor
    · split <;> split <;> rfl
    · intro h
      split at h <;> exact absurd h h1
variable (s) in
/-- How often, behind an atom. -/
def repGo : Nat → T → Sc → T × Sc
  | 0, t, st => (t, st)
  | n + 1, t, st =>
    if isB s st 43 = true then repGo n (timN t 1 (-1)) st.adv
    else if isB s st 63 = true then repGo n (timN t 0 1) st.adv
    else if isB s st 123 = true then repGo n (timN t (timesR s st.adv).1.1 (timesR s st.adv).1.2) (timesR s st.adv).2
    else if isB s st 42 = true then repGo n (timN t 0 (-1)) st.adv
    else (t, st)
theorem repGo_ne : ∀ (n : Nat) (t : T) {st : Sc}, st.e ≠ 0 → repGo s n t st = (t, st)
  | 0, t, st, h => rfl
  | n + 1, t, st, h => by
    rw [repGo, isB_ne h, isB_ne h, isB_ne h, isB_ne h]
    rfl
theorem timesR_le {st : Sc} (h : st.at_ ≤ s.size) : Le s st.at_ (timesR s st).2 := by rw [(timesR_eq st).1]; exact le_times h
theorem repGo_at : ∀ (n : Nat) (t : T) (st : Sc), st.at_ ≤ s.size → Le s st.at_ (repGo s n t st).2
  | 0, t, st, h => Le.refl h
  | n + 1, t, st, h => by
    have key : ∀ (c : Int) (u : T) (st' : Sc), isB s st c = true → Le s st.adv.at_ st' → Le s st.at_ (repGo s n u st').2 := fun c u st' hc hl => by
      have h1 := repGo_at n u st' hl.2
      exact ⟨by have := hl.1; have := h1.1; have : st.adv.at_ = st.at_ + 1 := rfl; omega, h1.2⟩
    have hlt : ∀ c, isB s st c = true → st.adv.at_ ≤ s.size := fun c hc => (isB_lt hc).2.1
    rw [repGo]
    split
    · rename_i hc; exact key _ _ _ hc (Le.refl (hlt _ hc))
    split
    · rename_i hc; exact key _ _ _ hc (Le.refl (hlt _ hc))
    split
    · rename_i hc; exact key _ _ _ hc (timesR_le (hlt _ hc))
    split
    · rename_i hc; exact key _ _ _ hc (Le.refl (hlt _ hc))
    · exact Le.refl h
/-- What stands for no atom. -/
def badC (c : Int) : Bool := c == 93 || c == 125 || c == 42 || c == 43 || c == 63 || c == 123
variable (s) in
def atomE (c : Int) (st : Sc) : T × Sc :=
  if c = 91 then (setN (setS s st.adv).1, (setS s st.adv).2)
  else if c = 46 then (setN (inR 0 255), st.adv)
  else if c = 92 then (setN (fun q => decide ((q : Int) = (escapeS s st.adv).1)), (escapeS s st.adv).2)
  else (setN (fun q => decide ((q : Int) = c)), st.adv)
variable (s) in
def altGo : Nat → List T → List T → Sc → T × Sc
  | 0, rows, row, st => (zN, st)
  | n + 1, rows, row, st =>
    if goes s st ∧ gb s st.at_ ≠ 41 ∧ gb s st.at_ ≠ 124 then
      if badC (gb s st.at_) = true then (Lv.done ⟨rows, row⟩, st.fail st.at_ 2)
      else if gb s st.at_ = 40 then
        altGo n rows (row ++ [(repGo s (s.size + 1) (altGo n [] [] st.adv).1 (mustS s (altGo n [] [] st.adv).2 41)).1]) (repGo s (s.size + 1) (altGo n [] [] st.adv).1 (mustS s (altGo n [] [] st.adv).2 41)).2
      else altGo n rows (row ++ [(repGo s (s.size + 1) (atomE s (gb s st.at_) st).1 (atomE s (gb s st.at_) st).2).1]) (repGo s (s.size + 1) (atomE s (gb s st.at_) st).1 (atomE s (gb s st.at_) st).2).2
    else if isB s st 124 = true then altGo n (rows ++ [oneN 2 row]) [] st.adv
    else (Lv.done ⟨rows, row⟩, st)
theorem atomE_le {st : Sc} (h : goes s st) (c : Int) : Le s (st.at_ + 1) (atomE s c st).2 := by
  have h1 : Le s (st.at_ + 1) st.adv := ⟨Nat.le_refl _, h.2⟩
  unfold atomE
  split
  · exact h1.trans (le_set h1.2)
  split
  · exact h1
  split
  · exact h1.trans (le_escape h1.2)
  · exact h1
theorem altGo_at : ∀ (n : Nat) (rows row : List T) (st : Sc), st.at_ ≤ s.size → Le s st.at_ (altGo s n rows row st).2
  | 0, rows, row, st, h => Le.refl h
  | n + 1, rows, row, st, h => by
    rw [altGo]
    split
    · rename_i hg
      have h1 : st.adv.at_ ≤ s.size := hg.1.2
      have up : ∀ {st' : Sc}, Le s st.adv.at_ st' → Le s st.at_ st' := fun hl => ⟨by have := hl.1; have : st.adv.at_ = st.at_ + 1 := rfl; omega, hl.2⟩
      split
      · exact (Le.refl h).fail _ _
      split
      · have h2 := altGo_at n [] [] st.adv h1
        have h3 := h2.trans (le_must h2.2 41)
        have h4 := h3.trans (repGo_at (s.size + 1) (altGo s n [] [] st.adv).1 _ h3.2)
        exact up (h4.trans (altGo_at n _ _ _ h4.2))
      · have h3 := atomE_le hg.1 (gb s st.at_)
        have h4 := Le.trans h3 (repGo_at (s.size + 1) (atomE s (gb s st.at_) st).1 _ h3.2)
        exact up (Le.trans h4 (altGo_at n _ _ _ h4.2))
    · split
      · rename_i hc
        have h1 : st.adv.at_ ≤ s.size := (isB_lt hc).2.1
        have h2 := altGo_at n (rows ++ [oneN 2 row]) [] st.adv h1
        exact ⟨by have := h2.1; have : st.adv.at_ = st.at_ + 1 := rfl; omega, h2.2⟩
      · exact Le.refl h
theorem altGo_fuel : ∀ (n k : Nat) (rows row : List T) (st : Sc), st.at_ ≤ s.size → s.size - st.at_ < n → s.size - st.at_ < k → altGo s n rows row st = altGo s k rows row st
  | 0, k, rows, row, st, h0, h, h' => by omega
  | n + 1, 0, rows, row, st, h0, h, h' => by omega
  | n + 1, k + 1, rows, row, st, h0, h, h' => by
    rw [altGo, altGo]
    split
    · rename_i hg
      have hlt := hg.1.2
      have ha : st.adv.at_ = st.at_ + 1 := rfl
      have step : ∀ (rows row : List T) (st' : Sc), Le s st.adv.at_ st' → altGo s n rows row st' = altGo s k rows row st' := fun rows row st' hl => by
        have h1 := hl.1
        exact altGo_fuel n k rows row st' hl.2 (by omega) (by omega)
      split
      · rfl
      split
      · rw [step [] [] st.adv (Le.refl hlt)]
        have h2 := altGo_at k [] [] st.adv hlt
        have h3 := h2.trans (le_must h2.2 41)
        exact step _ _ _ (h3.trans (repGo_at (s.size + 1) (altGo s k [] [] st.adv).1 _ h3.2))
      · have h3 := atomE_le hg.1 (gb s st.at_)
        exact step _ _ _ (Le.trans h3 (repGo_at (s.size + 1) (atomE s (gb s st.at_) st).1 _ h3.2))
    · split
      · rename_i hc
        have hlt := (isB_lt hc).2.1
        have ha : st.adv.at_ = st.at_ + 1 := rfl
        exact altGo_fuel n k _ _ _ hlt (by omega) (by omega)
      · rfl

/-! #### both come to the same -/
theorem two_ne : (2 : Int) ≠ 0 := by decide
theorem endM_ne {m : Mc} (h : m.sc.e ≠ 0) : endM m = m.sc := by
  unfold endM
  split
  · rfl
  · exact fail_ne h _ _
variable (s) in
def nrep (st : Sc) : Prop := ∀ c : Int, c = 42 ∨ c = 43 ∨ c = 63 ∨ c = 123 → isB s st c = false
variable (s) in
/-- The machine ends with this error. -/
def Ends (m : Mc) (st : Sc) : Prop := (endM (runF s m)).pl = st.pl ∧ (endM (runF s m)).e = st.e
theorem ends_of {m : Mc} {st : Sc} (h : m.sc.e ≠ 0) (h1 : m.sc.pl = st.pl) (h2 : m.sc.e = st.e) : Ends s m st := by
  have h3 : runF s m = m := runF_stop fun hg => h hg.1
  unfold Ends
  rw [h3, endM_ne h]
  exact ⟨h1, h2⟩
theorem isB_self {st : Sc} (h : goes s st) : isB s st (gb s st.at_) = true := by
  unfold isB
  rw [decide_eq_true h.1, decide_eq_true h.2, decide_eq_true rfl]
  rfl
theorem getLastD_snoc (row : List T) (t u : T) : (row ++ [t]).getLastD u = t := by simp
theorem rep_run : ∀ (n : Nat) (t : T) (st : Sc) (rows row : List T) (rest : List Lv), st.at_ ≤ s.size → s.size - st.at_ < n →
    ((repGo s n t st).2.e ≠ 0 ∧ Ends s ⟨st, ⟨rows, row ++ [t]⟩, rest⟩ (repGo s n t st).2) ∨
    ((repGo s n t st).2.e = 0 ∧ runF s ⟨st, ⟨rows, row ++ [t]⟩, rest⟩ = runF s ⟨(repGo s n t st).2, ⟨rows, row ++ [(repGo s n t st).1]⟩, rest⟩ ∧ nrep s (repGo s n t st).2)
  | 0, t, st, rows, row, rest, h, h' => by omega
  | n + 1, t, st, rows, row, rest, h, h' => by
    have ha : st.adv.at_ = st.at_ + 1 := rfl
    have hne : ¬ row ++ [t] = [] := by simp
    have step : ∀ (c lo hi : Int) (st' : Sc), isB s st c = true → Le s st.adv.at_ st' → stepM s ⟨st, ⟨rows, row ++ [t]⟩, rest⟩ = ⟨st', ⟨rows, row ++ [timN t lo hi]⟩, rest⟩ →
        ((repGo s n (timN t lo hi) st').2.e ≠ 0 ∧ Ends s ⟨st, ⟨rows, row ++ [t]⟩, rest⟩ (repGo s n (timN t lo hi) st').2) ∨
        ((repGo s n (timN t lo hi) st').2.e = 0 ∧ runF s ⟨st, ⟨rows, row ++ [t]⟩, rest⟩ = runF s ⟨(repGo s n (timN t lo hi) st').2, ⟨rows, row ++ [(repGo s n (timN t lo hi) st').1]⟩, rest⟩ ∧ nrep s (repGo s n (timN t lo hi) st').2) := by
      intro c lo hi st' hc hl hs
      obtain ⟨h1, h2, h3⟩ := isB_lt hc
      have h4 := hl.1
      have hr : runF s ⟨st, ⟨rows, row ++ [t]⟩, rest⟩ = runF s ⟨st', ⟨rows, row ++ [timN t lo hi]⟩, rest⟩ := by rw [runF_go (m := ⟨st, ⟨rows, row ++ [t]⟩, rest⟩) ⟨h1, h2⟩, hs]
      unfold Ends
      rw [hr]
      exact rep_run n (timN t lo hi) st' rows row rest hl.2 (by omega)
    have rep : ∀ lo hi, Lv.rep ⟨rows, row ++ [t]⟩ lo hi = ⟨rows, row ++ [timN t lo hi]⟩ := fun lo hi => by
      unfold Lv.rep
      rw [getLastD_snoc, List.dropLast_concat]
    have tonly : ∀ (a b : T × Sc), a = b → a = b := fun _ _ h => h
    rw [repGo]
    split
    · rename_i hc
      obtain ⟨h1, h2, h3⟩ := isB_lt hc
      refine step _ _ _ _ hc (Le.refl h2) ?_
      simp [stepM, h3, Mc.repeat_, rep]
    split
    · rename_i hc
      obtain ⟨h1, h2, h3⟩ := isB_lt hc
      refine step _ _ _ _ hc (Le.refl h2) ?_
      simp [stepM, h3, Mc.repeat_, rep]
    split
    · rename_i hc
      obtain ⟨h1, h2, h3⟩ := isB_lt hc
      have hs : stepM s ⟨st, ⟨rows, row ++ [t]⟩, rest⟩ = ⟨(timesS s st.adv).2, ⟨rows, row ++ [timN t (timesS s st.adv).1.1 (timesS s st.adv).1.2]⟩, rest⟩ := by
        simp [stepM, h3, rep]
      obtain ⟨e1, e2⟩ := timesR_eq (s := s) st.adv
      by_cases h0 : (timesS s st.adv).2.e = 0
      · have e3 := e2 h0
        rw [e1, e3]
        exact step _ _ _ _ hc (le_times h2) hs
      · rw [e1, repGo_ne _ _ h0]
        refine .inl ⟨h0, ?_⟩
        unfold Ends
        rw [runF_go (m := ⟨st, ⟨rows, row ++ [t]⟩, rest⟩) ⟨h1, h2⟩, hs]
        exact ends_of (s := s) (m := ⟨(timesS s st.adv).2, _, rest⟩) h0 rfl rfl
    split
    · rename_i hc
      obtain ⟨h1, h2, h3⟩ := isB_lt hc
      refine step _ _ _ _ hc (Le.refl h2) ?_
      simp [stepM, h3, Mc.repeat_, rep]
    · rename_i h43 h63 h123 h42
      by_cases h0 : st.e = 0
      · refine .inr ⟨h0, rfl, ?_⟩
        rintro c (rfl | rfl | rfl | rfl)
        · simpa using h42
        · simpa using h43
        · simpa using h63
        · simpa using h123
      · exact .inl ⟨h0, ends_of h0 rfl rfl⟩
variable (s) in
/-- What the reader's row comes to, the machine's does. -/
def Meets (m : Mc) (r : T × Sc) : Prop :=
  (r.2.e ≠ 0 → Ends s m r.2) ∧ (r.2.e = 0 → ∃ rows row, r.1 = Lv.done ⟨rows, row⟩ ∧ runF s m = runF s ⟨r.2, ⟨rows, row⟩, m.rest⟩ ∧ (¬ r.2.at_ < s.size ∨ gb s r.2.at_ = 41))
theorem Meets.back {m m' : Mc} {r : T × Sc} (h : Meets s m' r) (hr : runF s m = runF s m') (he : m'.rest = m.rest) : Meets s m r := by
  unfold Meets Ends at *
  rw [hr, ← he]
  exact h
theorem altGo_ne {st : Sc} (h : st.e ≠ 0) (n : Nat) (rows row : List T) : altGo s (n + 1) rows row st = (Lv.done ⟨rows, row⟩, st) := by
  rw [altGo, if_neg (fun hg => h hg.1.1), isB_ne h, if_neg (by decide)]
theorem alt_run : ∀ (n : Nat) (rows row : List T) (st : Sc) (rest : List Lv), st.at_ ≤ s.size → s.size - st.at_ < n → (row = [] ∨ nrep s st) →
    Meets s ⟨st, ⟨rows, row⟩, rest⟩ (altGo s n rows row st)
  | 0, rows, row, st, rest, h, h', hrow => by omega
  | n + 1, rows, row, st, rest, h, h', hrow => by
    by_cases h0 : st.e = 0
    · rw [altGo]
      split
      · rename_i hg
        obtain ⟨hgo, h41, h124⟩ := hg
        have hlt := hgo.2
        have ha : st.adv.at_ = st.at_ + 1 := rfl
        have hself := isB_self hgo
        split
        · rename_i hbad
          refine ⟨fun _ => ?_, fun h => absurd h (by unfold Sc.fail; rw [if_pos h0]; exact (by decide : (2 : Int) ≠ 0))⟩
          have hs : (stepM s ⟨st, ⟨rows, row⟩, rest⟩).sc = ⟨st.at_ + 1, st.at_, 2⟩ := by
            have hadv : st.adv.fail st.at_ 2 = ⟨st.at_ + 1, st.at_, 2⟩ := by unfold Sc.fail; rw [if_pos (show st.adv.e = 0 from h0)]; rfl
            have hr0 : ∀ c : Int, c = 42 ∨ c = 43 ∨ c = 63 ∨ c = 123 → gb s st.at_ = c → row = [] := fun c hc e => by
              rcases hrow with h | h
              · exact h
              · have := h c hc
                rw [← e, hself] at this
                cases this
            unfold badC at hbad
            simp only [Bool.or_eq_true, beq_iff_eq] at hbad
            rcases hbad with ((((e | e) | e) | e) | e) | e
            · simp [stepM, e, hadv]
            · simp [stepM, e, hadv]
            · have := hr0 42 (by simp) e; subst this; simp [stepM, e, hadv, Mc.repeat_]
            · have := hr0 43 (by simp) e; subst this; simp [stepM, e, hadv, Mc.repeat_]
            · have := hr0 63 (by simp) e; subst this; simp [stepM, e, hadv, Mc.repeat_]
            · have := hr0 123 (by simp) e; subst this; simp [stepM, e, hadv]
          unfold Ends
          rw [runF_go (m := ⟨st, ⟨rows, row⟩, rest⟩) hgo]
          have e1 : st.fail st.at_ 2 = ⟨st.at_, st.at_, 2⟩ := by unfold Sc.fail; rw [if_pos h0]
          rw [e1]
          exact ends_of (st := ⟨st.at_, st.at_, 2⟩) (by rw [hs]; exact two_ne) (by rw [hs]) (by rw [hs])
        · rename_i hbad
          -- behind an atom
          have tail : ∀ (t : T) (st2 : Sc), Le s st.adv.at_ st2 → runF s ⟨st, ⟨rows, row⟩, rest⟩ = runF s ⟨st2, ⟨rows, row ++ [t]⟩, rest⟩ →
              Meets s ⟨st, ⟨rows, row⟩, rest⟩ (altGo s n rows (row ++ [(repGo s (s.size + 1) t st2).1]) (repGo s (s.size + 1) t st2).2) := by
            intro t st2 hl hr
            have h1 := hl.1
            have h2 := repGo_at (s.size + 1) t st2 hl.2
            have h3 := h2.1
            rcases rep_run (s.size + 1) t st2 rows row rest hl.2 (by omega) with ⟨a, b⟩ | ⟨a, b, c⟩
            · obtain ⟨k, rfl⟩ : ∃ k, n = k + 1 := ⟨n - 1, by omega⟩
              rw [altGo_ne a]
              refine ⟨fun _ => ?_, fun h => absurd h a⟩
              unfold Ends at b ⊢
              rw [hr]
              exact b
            · exact (alt_run n rows _ _ rest h2.2 (by omega) (.inr c)).back (hr.trans b) rfl
          split
          · rename_i h40
            have hs : stepM s ⟨st, ⟨rows, row⟩, rest⟩ = ⟨st.adv, ⟨[], []⟩, ⟨rows, row⟩ :: rest⟩ := by simp [stepM, h40]
            have hr := runF_go (m := ⟨st, ⟨rows, row⟩, rest⟩) hgo
            rw [hs] at hr
            have ih := alt_run n [] [] st.adv (⟨rows, row⟩ :: rest) hlt (by omega) (.inl rfl)
            have hat := altGo_at n [] [] st.adv hlt
            have hat1 := hat.1
            obtain ⟨r, hrr⟩ : ∃ r, r = altGo s n [] [] st.adv := ⟨_, rfl⟩
            rw [← hrr] at ih hat hat1 ⊢
            obtain ⟨k, hk⟩ : ∃ k, n = k + 1 := ⟨n - 1, by omega⟩
            by_cases he : r.2.e = 0
            · obtain ⟨rows', row', e1, e2, e3⟩ := ih.2 he
              by_cases hc : isB s r.2 41 = true
              · have hm : mustS s r.2 41 = r.2.adv := by unfold mustS; rw [if_pos hc]
                rw [hm]
                obtain ⟨_, c2, c3⟩ := isB_lt hc
                refine tail r.1 r.2.adv ⟨by show st.adv.at_ ≤ r.2.at_ + 1; omega, c2⟩ ?_
                rw [hr, e2, runF_go (m := ⟨r.2, ⟨rows', row'⟩, _⟩) ⟨he, c2⟩, e1]
                simp [stepM, c3, Lv.put]
              · have hlt2 : ¬ r.2.at_ < s.size := by
                  rcases e3 with e3 | e3
                  · exact e3
                  · intro hl
                    apply hc
                    have := isB_self (s := s) (st := r.2) ⟨he, hl⟩
                    rwa [e3] at this
                have hm : mustS s r.2 41 = ⟨r.2.at_, r.2.at_, 2⟩ := by unfold mustS Sc.fail; rw [if_neg hc, if_pos he]
                have hne : (⟨r.2.at_, r.2.at_, 2⟩ : Sc).e ≠ 0 := two_ne
                rw [hm, repGo_ne _ _ hne, hk, altGo_ne hne]
                refine ⟨fun _ => ?_, fun h => absurd h hne⟩
                unfold Ends
                rw [hr, e2, runF_stop (m := ⟨r.2, ⟨rows', row'⟩, _⟩) (fun hg => hlt2 hg.2)]
                show (Sc.fail r.2 r.2.at_ 2).pl = _ ∧ (Sc.fail r.2 r.2.at_ 2).e = _
                unfold Sc.fail
                rw [if_pos he]
                exact ⟨rfl, rfl⟩
            · rw [must_ne he, repGo_ne _ _ he, hk, altGo_ne he]
              refine ⟨fun _ => ?_, fun h => absurd h he⟩
              have := ih.1 he
              unfold Ends at this ⊢
              rw [hr]
              exact this
          · rename_i h40
            have hb : badC (gb s st.at_) = false := by simpa using hbad
            unfold badC at hb
            simp only [Bool.or_eq_false_iff, beq_eq_false_iff_ne] at hb
            obtain ⟨⟨⟨⟨⟨b1, b2⟩, b3⟩, b4⟩, b5⟩, b6⟩ := hb
            refine tail _ _ (atomE_le hgo _) ?_
            rw [runF_go (m := ⟨st, ⟨rows, row⟩, rest⟩) hgo]
            congr 1
            unfold atomE
            simp only [stepM, h40, h41, h124, b1, b2, b3, b4, b5, b6, if_false, or_self]
            by_cases c91 : gb s st.at_ = 91
            · simp [c91, Lv.put, Mc.put]
            · by_cases c46 : gb s st.at_ = 46
              · simp [c46, Lv.put, Mc.put]
              · by_cases c92 : gb s st.at_ = 92
                · simp [c92, Lv.put, Mc.put]
                · simp [c91, c46, c92, Lv.put, Mc.put]
      · rename_i hg
        split
        · rename_i hc
          obtain ⟨c1, c2, c3⟩ := isB_lt hc
          have ha : st.adv.at_ = st.at_ + 1 := rfl
          refine (alt_run n (rows ++ [oneN 2 row]) [] st.adv rest c2 (by omega) (.inl rfl)).back ?_ rfl
          rw [runF_go (m := ⟨st, ⟨rows, row⟩, rest⟩) ⟨c1, c2⟩]
          simp [stepM, c3, Lv.close]
        · rename_i hc
          refine ⟨fun h => absurd h0 h, fun _ => ⟨rows, row, rfl, rfl, ?_⟩⟩
          by_cases hl : st.at_ < s.size
          · right
            by_cases e : gb s st.at_ = 41
            · exact e
            · exfalso
              apply hg
              refine ⟨⟨h0, hl⟩, e, fun e2 => hc ?_⟩
              rw [← e2]
              exact isB_self ⟨h0, hl⟩
          · exact .inl hl
    · rw [altGo_ne h0]
      exact ⟨fun _ => ends_of h0 rfl rfl, fun h => absurd h h0⟩
variable (s) in
def altF (rows row : List T) (st : Sc) : T × Sc := altGo s (s.size + 1 - st.at_) rows row st
variable (s) in
/-- What the document's reader makes of a text. -/
def refParse : Out :=
  if s.size > 400 then ⟨zN, 0, 3⟩ else
  let r := altF s [] [] ⟨0, 0, 0⟩
  let st := if r.2.e = 0 ∧ r.2.at_ < s.size then r.2.fail r.2.at_ 2 else r.2
  if st.e ≠ 0 then ⟨zN, st.pl, st.e⟩ else if wideT r.1 then ⟨zN, 0, 3⟩ else ⟨r.1, 0, 0⟩
theorem parse_run : runM s (s.size + 1) m0 = runF s m0 := rfl
theorem parse_eq : refParse s = parseS s := by
  unfold refParse parseS
  split
  · rfl
  rw [parse_run]
  have h := alt_run (s := s) (s.size + 1) [] [] ⟨0, 0, 0⟩ [] (Nat.zero_le _) (by show s.size - 0 < _; omega) (.inl rfl)
  have hA : altF s [] [] ⟨0, 0, 0⟩ = altGo s (s.size + 1) [] [] ⟨0, 0, 0⟩ := rfl
  rw [hA]
  obtain ⟨r, hr⟩ : ∃ r, r = altGo s (s.size + 1) [] [] ⟨0, 0, 0⟩ := ⟨_, rfl⟩
  rw [← hr] at h ⊢
  have hm : (⟨⟨0, 0, 0⟩, ⟨[], []⟩, []⟩ : Mc) = m0 := rfl
  rw [hm] at h
  dsimp only
  by_cases he : r.2.e = 0
  · obtain ⟨rows, row, e1, e2, e3⟩ := h.2 he
    have hrest : m0.rest = [] := rfl
    rw [hrest] at e2
    by_cases hl : r.2.at_ < s.size
    · have e4 : gb s r.2.at_ = 41 := by
        rcases e3 with e | e
        · exact absurd hl e
        · exact e
      have hs : stepM s ⟨r.2, ⟨rows, row⟩, []⟩ = ⟨r.2.adv.fail r.2.at_ 2, ⟨rows, row⟩, []⟩ := by simp [stepM, e4]
      have hf : r.2.adv.fail r.2.at_ 2 = ⟨r.2.at_ + 1, r.2.at_, 2⟩ := by unfold Sc.fail; rw [if_pos (show r.2.adv.e = 0 from he)]; rfl
      have hf2 : r.2.fail r.2.at_ 2 = ⟨r.2.at_, r.2.at_, 2⟩ := by unfold Sc.fail; rw [if_pos he]
      have hrun : runF s m0 = ⟨⟨r.2.at_ + 1, r.2.at_, 2⟩, ⟨rows, row⟩, []⟩ := by
        rw [e2, runF_go (m := ⟨r.2, ⟨rows, row⟩, []⟩) ⟨he, hl⟩, hs, hf]
        exact runF_stop fun hg => absurd hg.1 two_ne
      have hif : (if r.2.e = 0 ∧ r.2.at_ < s.size then r.2.fail r.2.at_ 2 else r.2) = ⟨r.2.at_, r.2.at_, 2⟩ := by rw [if_pos ⟨he, hl⟩, hf2]
      rw [hrun, hif]
      rfl
    · have hrun : runF s m0 = ⟨r.2, ⟨rows, row⟩, []⟩ := by
        rw [e2]
        exact runF_stop fun hg => hl hg.2
      have hif : (if r.2.e = 0 ∧ r.2.at_ < s.size then r.2.fail r.2.at_ 2 else r.2) = r.2 := if_neg (fun h => hl h.2)
      have hen : endM ⟨r.2, ⟨rows, row⟩, []⟩ = r.2 := rfl
      have hne : ¬ r.2.e ≠ 0 := fun h => h he
      rw [hrun, hif, hen, if_neg hne, if_neg hne, e1]
  · obtain ⟨p1, p2⟩ := h.1 he
    have hif : (if r.2.e = 0 ∧ r.2.at_ < s.size then r.2.fail r.2.at_ 2 else r.2) = r.2 := if_neg (fun h => he h.1)
    rw [hif, if_pos he, if_pos (by rw [p2]; exact he), p1, p2]
end Go.Proofs.Ytmkcbbamfkafmaa.P
/- Two texts, of which one holds the other: the scanner and the machine go alike on both. -/
namespace Go.Proofs.Ytmkcbbamfkafmaa.P
open Go.RowKit Go.Proofs.Ytmkcbbamfkafmaa
set_option linter.unusedVariables false
set_option linter.unusedSimpArgs false
/-- The text b has the text a from k on. -/
structure Ag (a b : ByteArray) (k : Nat) : Prop where
  sz : a.size + k ≤ b.size
  gb : ∀ i, i < a.size → gb b (i + k) = gb a i
theorem setGo_ne {s : ByteArray} {st : Sc} (h : st.e ≠ 0) (n : Nat) (f : Nat → Bool) : setGo s n f st = (f, st) := by
  cases n with
  | zero => rfl
  | succ n => rw [setGo, if_neg h]
section
variable {a b : ByteArray} {k : Nat} (H : Ag a b k)
include H
omit H in
theorem items_one {x : Sc} (h : isB a (itemS a x).2 45 = false) : itemsS a x = (((itemS a x).1, (itemS a x).1), (itemS a x).2) := by
  unfold itemsS
  rw [h, if_neg (by decide)]
omit H in
theorem itemP {x : Sc} (h : x.at_ ≤ a.size) (he : (itemS a x).2.e = 0) : x.at_ < (itemS a x).2.at_ ∧ x.e = 0 := by
  unfold itemS at he ⊢
  split at he
  · rename_i hb
    rw [if_pos hb]
    have h1 := isB_lt hb
    have h2 := le_escape (s := a) (st := x.adv) h1.2.1
    exact ⟨by have := h2.1; have : x.adv.at_ = x.at_ + 1 := rfl; omega, h1.1⟩
  · rename_i hb
    rw [if_neg hb]
    split at he
    · rename_i h1
      rw [if_pos h1]
      exact ⟨Nat.lt_succ_self _, h1.1⟩
    · exfalso
      unfold Sc.fail at he
      split at he
      · cases he
      · contradiction
omit H in
theorem itemsP {x : Sc} (h : x.at_ ≤ a.size) (he : (itemsS a x).2.e = 0) : x.at_ < (itemsS a x).2.at_ := by
  have h0 := le_item h
  unfold itemsS at he ⊢
  split at he
  · rename_i hb
    rw [if_pos hb]
    have h1 := isB_lt hb
    have h2 := itemP h h1.1
    have h3 := le_item (s := a) (st := (itemS a x).2.adv) h1.2.1
    have h4 : (itemS a x).2.adv.at_ = (itemS a x).2.at_ + 1 := rfl
    have h5 := h3.1
    dsimp only
    split
    · rw [fail_at]; omega
    · omega
  · rename_i hb
    rw [if_neg hb]
    exact (itemP h he).1
end
end Go.Proofs.Ytmkcbbamfkafmaa.P
/- Two texts, of which one holds the other: the machine goes alike on both; what stands between brackets. -/
namespace Go.Proofs.Ytmkcbbamfkafmaa.P
open Go.RowKit Go.Proofs.Ytmkcbbamfkafmaa
set_option linter.unusedVariables false
set_option linter.unusedSimpArgs false
section
variable {a b : ByteArray} {k : Nat} (H : Ag a b k) {base : List Lv}
include H
end
theorem parse_f (s : ByteArray) (hs : s.size ≤ 400) : parseS s = if (endM (runF s m0)).e ≠ 0 then ⟨zN, (endM (runF s m0)).pl, (endM (runF s m0)).e⟩ else if wideT (runF s m0).top.done then ⟨zN, 0, 3⟩ else ⟨(runF s m0).top.done, 0, 0⟩ := by
  have hr : runM s (s.size + 1) m0 = runF s m0 := rfl
  unfold parseS
  rw [if_neg (by omega)]
  dsimp only
  rw [hr]
/-- A text that is an expression: how the machine ends. -/
theorem parse_ok {s : ByteArray} (h : (parseS s).e = 0) : s.size ≤ 400 ∧ (runF s m0).sc.e = 0 ∧ (runF s m0).rest = [] ∧ (runF s m0).top.done = (parseS s).t ∧ ¬ wideT (parseS s).t ∧ parseS s = ⟨(parseS s).t, 0, 0⟩ := by
  have hs : s.size ≤ 400 := by
    by_cases hs : s.size ≤ 400
    · exact hs
    · unfold parseS at h
      rw [if_pos (by omega)] at h
      cases h
  rw [parse_f s hs] at h
  have hp := parse_f s hs
  by_cases he : (endM (runF s m0)).e = 0
  · rw [if_neg (fun x => x he)] at h hp
    by_cases hw : wideT (runF s m0).top.done
    · rw [if_pos hw] at h
      cases h
    · rw [if_neg hw] at hp
      have h0 : (runF s m0).sc.e = 0 := by
        by_cases h0 : (runF s m0).sc.e = 0
        · exact h0
        · rw [endM_ne h0] at he; exact he
      have hr : (runF s m0).rest = [] := by
        cases hr : (runF s m0).rest with
        | nil => rfl
        | cons p r =>
          unfold endM at he
          rw [hr] at he
          dsimp only at he
          unfold Sc.fail at he
          rw [if_pos h0] at he
          cases he
      rw [hp]
      exact ⟨hs, h0, hr, rfl, hw, rfl⟩
  · rw [if_pos he] at h
    exact absurd h he
/-! #### SyntaxBegins -/
/-- What an error can be. -/
def Fn (s : ByteArray) (st : Sc) : Prop := st.e = 0 ∨ ((st.e = 2 ∨ st.e = 3) ∧ 0 ≤ st.pl ∧ st.pl ≤ (s.size : Int))
section
variable {s : ByteArray} {st : Sc}
theorem Fn.fail (h : Fn s st) (p e : Int) (hp : 0 ≤ p ∧ p ≤ (s.size : Int)) (he : e = 2 ∨ e = 3) : Fn s (st.fail p e) := by
  unfold Sc.fail
  split
  · exact .inr ⟨he, hp⟩
  · exact h
theorem Fn.failAt (h : Fn s st) (hp : st.at_ ≤ s.size) : Fn s (st.fail st.at_ 2) := h.fail _ _ ⟨by omega, by omega⟩ (.inl rfl)
theorem Fn.adv (h : Fn s st) : Fn s st.adv := h
theorem fn_may (h : Fn s st) (c : Int) : Fn s (mayS s st c) := by unfold mayS; split <;> exact h
theorem fn_must (h : Fn s st) (hp : st.at_ ≤ s.size) (c : Int) : Fn s (mustS s st c) := by
  unfold mustS
  split
  · exact h
  · exact h.failAt hp
theorem fn_digit (h : Fn s st) (hp : st.at_ ≤ s.size) : Fn s (digitS s st).2 := by
  unfold digitS
  split
  · exact h
  · exact h.failAt hp
theorem fn_escape (h : Fn s st) (hp : st.at_ ≤ s.size) : Fn s (escapeS s st).2 := by
  unfold escapeS
  split
  · exact h
  split
  · exact h
  split
  · rename_i hb
    have h1 : st.adv.at_ ≤ s.size := (isB_lt hb).2.1
    exact fn_digit (fn_digit (st := st.adv) h h1) (le_digit h1).2
  split
  · exact h
  · exact h.failAt hp
theorem fn_item (h : Fn s st) (hp : st.at_ ≤ s.size) : Fn s (itemS s st).2 := by
  unfold itemS
  split
  · rename_i hb
    exact fn_escape (st := st.adv) h (isB_lt hb).2.1
  split
  · exact h
  · exact h.failAt hp
theorem fn_items (h : Fn s st) (hp : st.at_ ≤ s.size) : Fn s (itemsS s st).2 := by
  have h0 := fn_item h hp
  have l0 := le_item hp
  unfold itemsS
  split
  · rename_i hb
    have h2 := fn_item (st := (itemS s st).2.adv) h0 (isB_lt hb).2.1
    dsimp only
    split
    · exact h2.fail _ _ ⟨by omega, by have := l0.2; omega⟩ (.inl rfl)
    · exact h2
  · exact h0
theorem fn_setGo : ∀ (n : Nat) (f : Nat → Bool) {st : Sc}, Fn s st → st.at_ ≤ s.size → Fn s (setGo s n f st).2
  | 0, f, st, h, hp => h
  | n + 1, f, st, h, hp => by
    rw [setGo]
    split
    · split
      · exact h
      · exact fn_setGo n _ (fn_items h hp) (le_items hp).2
    · exact h
theorem fn_set (h : Fn s st) (hp : st.at_ ≤ s.size) : Fn s (setS s st).2 := by
  have h1 := le_may (s := s) hp 94
  unfold setS
  exact fn_setGo _ _ (fn_items (fn_may h 94) h1.2) (le_items h1.2).2
theorem fn_number (h : Fn s st) (hp : st.at_ ≤ s.size) : Fn s (numberS s st).2 := by
  unfold numberS
  split
  · dsimp only
    split
    · exact .inr ⟨.inl rfl, by dsimp only; omega, by dsimp only; omega⟩
    split
    · exact .inr ⟨.inr rfl, by dsimp only; omega, by dsimp only; omega⟩
    · exact .inl rfl
  · exact h
theorem fn_times2 (h : Fn s st) (hp : st.at_ ≤ s.size) (v : Int) : Fn s (times2 s v st).2 := by
  unfold times2
  split
  · rename_i hb
    split
    · exact h
    · exact fn_number (st := st.adv) h (isB_lt hb).2.1
  · exact h
theorem fn_times (h : Fn s st) (hp : st.at_ ≤ s.size) (h1 : 1 ≤ st.at_) : Fn s (timesS s st).2 := by
  have l1 := le_number hp
  have l2 := le_times2 (s := s) (numberS s st).1 l1.2
  have f3 := fn_must (fn_times2 (fn_number h hp) l1.2 (numberS s st).1) l2.2 125
  unfold timesS
  dsimp only
  split
  · exact f3.fail _ _ ⟨by omega, by omega⟩ (.inl rfl)
  · exact f3
theorem fn_step {m : Mc} (hg : goes s m.sc) : Fn s (stepM s m).sc := by
  have h : Fn s m.sc.adv := .inl hg.1
  have hl : m.sc.adv.at_ ≤ s.size := hg.2
  have hf : Fn s (m.sc.adv.fail m.sc.at_ 2) := h.fail _ _ ⟨by omega, by have := hg.2; omega⟩ (.inl rfl)
  have hi : ∀ {c : Prop} [Decidable c] {x y : Mc}, Fn s x.sc → Fn s y.sc → Fn s (if c then x else y).sc := fun {c} _ {x y} ha hb => by
    split
    · exact ha
    · exact hb
  unfold stepM Mc.repeat_ Mc.put
  dsimp only
  refine hi h (hi ?_ (hi h (hi (hi hf h) (hi (hi hf h) (hi (hi hf h) (hi (hi hf (fn_times h hl (by show 1 ≤ m.sc.at_ + 1; omega))) (hi h (hi (fn_set h hl) (hi (fn_escape h hl) (hi hf h))))))))))
  split
  · exact hf
  · exact h
theorem fn_run : ∀ (d : Nat) (m : Mc), s.size - m.sc.at_ ≤ d → m.sc.at_ ≤ s.size → Fn s m.sc → Fn s (runF s m).sc ∧ (runF s m).sc.at_ ≤ s.size
  | d, m, hd, hm, hf => by
    by_cases hg : goes s m.sc
    · rw [runF_go hg]
      have h1 := step_at hg
      cases d with
      | zero => have := hg.2; omega
      | succ d => exact fn_run d _ (by have := h1.1; omega) h1.2 (fn_step hg)
    · rw [runF_stop hg]; exact ⟨hf, hm⟩
end
/-! #### SyntaxGroups, SyntaxRepeats -/
end Go.Proofs.Ytmkcbbamfkafmaa.P
/- Bytes told by two digits: what the reader makes of them, in plain words. -/
namespace Go.Proofs.Ytmkcbbamfkafmaa.P
open Go.RowKit Go.Proofs.Ytmkcbbamfkafmaa
set_option linter.unusedVariables false
set_option linter.unusedSimpArgs false
/-- At i stands a byte told by two digits. -/
structure HexAt (s : ByteArray) (i : Nat) (a : Int) : Prop where
  sz : i + 4 ≤ s.size
  c0 : gb s i = 92
  c1 : gb s (i + 1) = 120
  hi : 0 ≤ hexI (gb s (i + 2))
  lo : 0 ≤ hexI (gb s (i + 3))
  val : hexI (gb s (i + 2)) * 16 + hexI (gb s (i + 3)) = a
section
variable {s : ByteArray} {i : Nat} {a pl : Int} (h : HexAt s i a)
include h
end
end Go.Proofs.Ytmkcbbamfkafmaa.P
