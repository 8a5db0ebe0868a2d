/- Plain facts on classes of bytes: four words of 64 bits. -/
import Derived.WalkKit
import Derived.Test.YtaohlmcgaggoeaaDoorPx12
import Derived.Test.YtaohlmcgaggoeaaDoorPx13
import Derived.Test.YtaohlmcgaggoeaaDoorPx14
import Derived.Test.YtaohlmcgaggoeaaDoorPx15
import Derived.Test.YtaohlmcgaggoeaaDoorPx16
import Derived.Test.YtaohlmcgaggoeaaDoorPx2
import Derived.Test.YtaohlmcgaggoeaaDoorPx3
import Derived.Test.YtaohlmcgaggoeaaDoorPx6
import Derived.Laws.Concat
namespace Go.Proofs.YtaohlmcgaggoeaaDoor
open Go.RowKit

def U64 : Int := 18446744073709551616
/-- Four words of 64 bits. -/
def W64 (x : Nat → Int) : Prop := ∀ j, j < 4 → 0 ≤ x j ∧ x j < U64
/-- Is byte b in the class? -/
def hasB (x : Nat → Int) (b : Nat) : Bool := (x (b / 64)).toNat.testBit (b % 64)

theorem u64_lt {n : Int} (h : n < U64) : n < 18446744073709551616 := h

theorem word_ext {a b : Int} (ha : 0 ≤ a) (ha' : a < U64) (hb : 0 ≤ b) (hb' : b < U64) (h : ∀ k, k < 64 → a.toNat.testBit k = b.toNat.testBit k) : a = b := by
  have e : a.toNat = b.toNat := by
    apply Nat.eq_of_testBit_eq
    intro k
    by_cases hk : k < 64
    · exact h k hk
    · have e64 : U64 = ((2 ^ 64 : Nat) : Int) := by unfold U64; rfl
      have hp : (2 : Nat) ^ 64 ≤ 2 ^ k := Nat.pow_le_pow_right (by decide) (by omega)
      have h1 : a.toNat < 2 ^ k := by rw [e64] at ha'; omega
      have h2 : b.toNat < 2 ^ k := by rw [e64] at hb'; omega
      rw [Nat.testBit_lt_two_pow h1, Nat.testBit_lt_two_pow h2]
  omega

theorem cls_ext {x y : Nat → Int} (hx : W64 x) (hy : W64 y) (h : ∀ b, b < 256 → hasB x b = hasB y b) (j : Nat) (hj : j < 4) : x j = y j := by
  refine word_ext (hx j hj).1 (hx j hj).2 (hy j hj).1 (hy j hj).2 fun k hk => ?_
  have := h (64 * j + k) (by omega)
  unfold hasB at this
  rwa [show (64 * j + k) / 64 = j by omega, show (64 * j + k) % 64 = k by omega] at this

theorem toNat_div_pow (a : Int) (ha : 0 ≤ a) (k : Nat) : (a / 2 ^ k).toNat = a.toNat / 2 ^ k := by
  obtain ⟨n, rfl⟩ := Int.eq_ofNat_of_zero_le ha
  have : ((n : Int) / 2 ^ k) = ((n / 2 ^ k : Nat) : Int) := by simp
  rw [this]; rfl

/-- The walk's spelling of 'c[b>>6]>>(b&63)&1 == 1'. -/
theorem bit_spelt {a : Int} (ha : 0 ≤ a) (ha' : a < U64) (k : Nat) : (bits .and .u64 (a / 2 ^ k) 1 == 1) = a.toNat.testBit k := by
  have h1 : 0 ≤ a / 2 ^ k := Int.ediv_nonneg ha (Int.le_of_lt (Int.pow_pos (by decide)))
  have h2 : a / 2 ^ k ≤ a := Int.ediv_le_self _ ha
  rw [u64_and _ _ h1 (by have := u64_lt ha'; omega) (by decide) (by decide), toNat_div_pow a ha k]
  rw [show (1 : Int).toNat = 1 from rfl, nat_mask1, Nat.testBit_eq_decide_div_mod_eq]
  have h01 : a.toNat / 2 ^ k % 2 = 0 ∨ a.toNat / 2 ^ k % 2 = 1 := by omega
  rcases h01 with h | h <;> simp [h]

theorem two_pow_lt (k : Nat) (hk : k < 64) : (2 : Int) ^ k < U64 ∧ 0 ≤ (2 : Int) ^ k := by
  have h : (2 : Nat) ^ k < 2 ^ 64 := Nat.pow_lt_pow_right (by decide) hk
  have e : ((2 : Int) ^ k) = ((2 ^ k : Nat) : Int) := by simp
  rw [e]
  generalize 2 ^ k = n at h
  unfold U64
  omega

/-- A word with a bit more. -/
theorem or_bit {a : Int} (ha : 0 ≤ a) (ha' : a < U64) (k : Nat) (hk : k < 64) :
    bits .or .u64 a (2 ^ k) = ((a.toNat ||| 2 ^ k : Nat) : Int) ∧ 0 ≤ bits .or .u64 a (2 ^ k) ∧ bits .or .u64 a (2 ^ k) < U64 ∧
      ∀ q, (bits .or .u64 a (2 ^ k)).toNat.testBit q = (a.toNat.testBit q || decide (k = q)) := by
  have hp := two_pow_lt k hk
  have e : bits .or .u64 a (2 ^ k) = ((a.toNat ||| 2 ^ k : Nat) : Int) := by
    rw [u64_or _ _ ha (u64_lt ha') hp.2 (u64_lt hp.1), toNat_two_pow]
  have hlt : a.toNat ||| 2 ^ k < 2 ^ 64 := Nat.or_lt_two_pow (by have := u64_lt ha'; omega) (Nat.pow_lt_pow_right (by decide) hk)
  refine ⟨e, by rw [e]; omega, by rw [e]; unfold U64; omega, fun q => ?_⟩
  rw [e, Int.toNat_natCast, Nat.testBit_or, Nat.testBit_two_pow]

/-- Is b between the two? -/
def inR (lo hi : Int) (b : Nat) : Bool := decide (lo ≤ b ∧ (b : Int) ≤ hi)
theorem and63 {k : Int} (h0 : 0 ≤ k) (h1 : k < 256) : bits .and .i64 k 63 = k % 64 :=
  bits_mask .i64 31 (by decide) (fun n a b => by rw [IntKind.wrap_i64]; have h : (2 : Int) ^ 31 = 2147483648 := by decide
                                                 rw [h] at b; omega) 6 (by decide) k h0 (by have h : (2 : Int) ^ 31 = 2147483648 := by decide
                                                                                            rw [h]; omega)
def setW (x : Nat → Int) (i : Nat) (v : Int) : Nat → Int := fun j => if j = i then v else x j

/-- The walk's spelling of 'c[b>>6] |= 1 << (b & 63)'. -/
theorem or_step {x : Nat → Int} (hx : W64 x) {b : Int} (h0 : 0 ≤ b) (h1 : b < 256) :
    W64 (setW x (b / 64).toNat (bits .or .u64 (x (b / 64).toNat) (IntKind.u64.wrap (2 ^ (b % 64).toNat)))) ∧
      ∀ q : Nat, q < 256 → hasB (setW x (b / 64).toNat (bits .or .u64 (x (b / 64).toNat) (IntKind.u64.wrap (2 ^ (b % 64).toNat)))) q = (hasB x q || decide ((q : Int) = b)) := by
  have hi : (b / 64).toNat < 4 := by omega
  have hk : (b % 64).toNat < 64 := by omega
  have hp := two_pow_lt _ hk
  have ew : IntKind.u64.wrap ((2 : Int) ^ (b % 64).toNat) = 2 ^ (b % 64).toNat := by
    rw [IntKind.wrap_u64]
    exact Int.emod_eq_of_lt hp.2 (u64_lt hp.1)
  rw [ew]
  obtain ⟨_, h2, h3, h4⟩ := or_bit (hx _ hi).1 (hx _ hi).2 _ hk
  refine ⟨fun j hj => ?_, fun q hq => ?_⟩
  · unfold setW
    split
    · exact ⟨h2, h3⟩
    · exact hx j hj
  · unfold hasB setW
    by_cases e : q / 64 = (b / 64).toNat
    · rw [if_pos e, h4, e]
      congr 1
      apply decide_eq_decide.2
      omega
    · rw [if_neg e, show decide ((q : Int) = b) = false from decide_eq_false (by omega), Bool.or_false]

/-- The walk's spelling of '^c[i]'. -/
def notw (a : Int) : Int := bits .xor .u64 (if IntKind.u64.signed = true then -1 else IntKind.u64.max) a
theorem notw_eq (a : Int) : bits .xor .u64 (if IntKind.u64.signed = true then -1 else IntKind.u64.max) a = notw a := rfl
theorem notw_nat {a : Int} (h0 : 0 ≤ a) (h1 : a < U64) : notw a = ((2 ^ 64 - 1 ^^^ a.toNat : Nat) : Int) := by
  have e : (if IntKind.u64.signed = true then -1 else IntKind.u64.max) = (18446744073709551615 : Int) := by decide
  unfold notw
  rw [e, u64_xor _ _ (by decide) (by decide) h0 (u64_lt h1)]
  rfl
theorem notw_range {a : Int} (h0 : 0 ≤ a) (h1 : a < U64) : 0 ≤ notw a ∧ notw a < U64 := by
  rw [notw_nat h0 h1]
  have : 2 ^ 64 - 1 ^^^ a.toNat < 2 ^ 64 := Nat.xor_lt_two_pow (by decide) (by have := u64_lt h1; omega)
  refine ⟨by omega, ?_⟩
  unfold U64
  omega
theorem notw_bit {a : Int} (h0 : 0 ≤ a) (h1 : a < U64) {k : Nat} (hk : k < 64) : (notw a).toNat.testBit k = !a.toNat.testBit k := by
  rw [notw_nat h0 h1, Int.toNat_natCast, Nat.testBit_xor, Nat.testBit_two_pow_sub_one]
  simp [hk]
theorem not_cls {x : Nat → Int} (hx : W64 x) : W64 (fun j => notw (x j)) ∧ ∀ b : Nat, b < 256 → hasB (fun j => notw (x j)) b = !hasB x b :=
  ⟨fun j hj => notw_range (hx j hj).1 (hx j hj).2, fun b hb => notw_bit (hx _ (by omega)).1 (hx _ (by omega)).2 (by omega)⟩

def orw (a b : Int) : Int := bits .or .u64 a b
theorem or_cls {x y : Nat → Int} (hx : W64 x) (hy : W64 y) : W64 (fun j => orw (x j) (y j)) ∧ ∀ b : Nat, b < 256 → hasB (fun j => orw (x j) (y j)) b = (hasB x b || hasB y b) := by
  have e : ∀ j, j < 4 → orw (x j) (y j) = (((x j).toNat ||| (y j).toNat : Nat) : Int) := fun j hj => by
    unfold orw
    exact u64_or _ _ (hx j hj).1 (u64_lt (hx j hj).2) (hy j hj).1 (u64_lt (hy j hj).2)
  refine ⟨fun j hj => ?_, fun b hb => ?_⟩
  · show 0 ≤ orw (x j) (y j) ∧ orw (x j) (y j) < U64
    rw [e j hj]
    have h1 := u64_lt (hx j hj).2
    have h2 := u64_lt (hy j hj).2
    have : (x j).toNat ||| (y j).toNat < 2 ^ 64 := Nat.or_lt_two_pow (by omega) (by omega)
    refine ⟨by omega, ?_⟩
    unfold U64
    omega
  · show (orw (x (b / 64)) (y (b / 64))).toNat.testBit (b % 64) = _
    rw [e _ (by omega), Int.toNat_natCast, Nat.testBit_or]
    rfl

theorem div_pow_range {a : Int} (h0 : 0 ≤ a) (h1 : a < U64) (k : Nat) : 0 ≤ a / 2 ^ k ∧ a / 2 ^ k < U64 :=
  ⟨Int.ediv_nonneg h0 (Int.le_of_lt (Int.pow_pos (by decide))), Int.lt_of_le_of_lt (Int.ediv_le_self _ h0) h1⟩
theorem half_step {a : Int} (h0 : 0 ≤ a) (h1 : a < U64) (k : Nat) : IntKind.u64.wrap ((a / 2 ^ k).tdiv 2) = a / 2 ^ (k + 1) := by
  obtain ⟨p, q⟩ := div_pow_range h0 h1 k
  have q := u64_lt q
  rw [Int.pow_succ, ← Int.ediv_ediv_of_nonneg (Int.le_of_lt (Int.pow_pos (by decide)))]
  generalize a / 2 ^ k = m at p q
  rw [Int.tdiv_eq_ediv_of_nonneg p, IntKind.wrap_u64]
  omega
theorem odd_spelt {a : Int} (h0 : 0 ≤ a) (h1 : a < U64) (k : Nat) : ((a / 2 ^ k).tmod 2 == 1) = a.toNat.testBit k := by
  rw [Nat.testBit_eq_decide_div_mod_eq, ← toNat_div_pow a h0 k]
  obtain ⟨p, q⟩ := div_pow_range h0 h1 k
  generalize a / 2 ^ k = m at p q
  rw [Int.tmod_eq_emod_of_nonneg p, Bool.eq_iff_iff, beq_iff_eq, decide_eq_true_iff]
  omega
/-- The words of the class of those bytes that f tells. -/
def cwn (f : Nat → Bool) (j : Nat) : Nat → Nat
  | 0 => 0
  | n + 1 => cwn f j n + (if f (64 * j + n) then 2 ^ n else 0)
theorem cwn_lt (f : Nat → Bool) (j : Nat) : ∀ n, cwn f j n < 2 ^ n
  | 0 => by simp [cwn]
  | n + 1 => by
    have := cwn_lt f j n
    rw [cwn, Nat.pow_succ]
    split <;> omega
theorem cwn_bit (f : Nat → Bool) (j : Nat) : ∀ n k, k < n → (cwn f j n).testBit k = f (64 * j + k)
  | 0, k, h => by omega
  | n + 1, k, h => by
    have hl := cwn_lt f j n
    rw [cwn]
    by_cases e : k = n
    · subst e
      split
      · rename_i hf
        rw [Nat.add_comm, Nat.testBit_two_pow_add_eq, Nat.testBit_lt_two_pow hl, hf]
        rfl
      · rename_i hf
        rw [Nat.add_zero, Nat.testBit_lt_two_pow hl]
        simpa using hf
    · have hk : k < n := by omega
      split
      · rw [Nat.add_comm, Nat.testBit_two_pow_add_gt hk, cwn_bit f j n k hk]
      · rw [Nat.add_zero, cwn_bit f j n k hk]
def clsOf (f : Nat → Bool) (j : Nat) : Int := (cwn f j 64 : Nat)
theorem w64_clsOf (f : Nat → Bool) : W64 (clsOf f) := fun j _ => by
  have := cwn_lt f j 64
  unfold clsOf U64
  omega
theorem has_clsOf (f : Nat → Bool) (b : Nat) : hasB (clsOf f) b = f b := by
  unfold hasB clsOf
  rw [Int.toNat_natCast, cwn_bit f _ 64 _ (by omega), show 64 * (b / 64) + b % 64 = b by omega]
theorem clsOf_eq {x : Nat → Int} (hx : W64 x) {f : Nat → Bool} (h : ∀ b, b < 256 → hasB x b = f b) (j : Nat) (hj : j < 4) : x j = clsOf f j :=
  cls_ext hx (w64_clsOf f) (fun b hb => by rw [has_clsOf, h b hb]) j hj
def memB (l : List Int) (b : Nat) : Bool := decide ((b : Int) ∈ l)
end Go.Proofs.YtaohlmcgaggoeaaDoor
/- The reader of expressions, in plain words: the scanner, the machine with its stack, the document's reader. -/
namespace Go.Proofs.YtaohlmcgaggoeaaDoor.P
open Go.RowKit Go.Proofs.YtaohlmcgaggoeaaDoor
set_option linter.unusedVariables false
abbrev T := S27
/-- The i-th byte of a text. -/
def gb (s : ByteArray) (i : Nat) : Int := if h : i < s.size then ((s[i]'h).toNat : Int) else 0
theorem gb_range (s : ByteArray) (i : Nat) : 0 ≤ gb s i ∧ gb s i < 256 := by
  unfold gb
  split
  · rename_i h
    have := (s[i]'h).toNat_lt
    omega
  · omega
/-- Where a reader is: the next byte, the place and the number of an error. -/
structure Sc where
  at_ : Nat
  pl : Int
  e : Int
namespace Sc
def fail (st : Sc) (p e : Int) : Sc := if st.e = 0 then ⟨st.at_, p, e⟩ else st
def adv (st : Sc) : Sc := ⟨st.at_ + 1, st.pl, st.e⟩
end Sc
def isB (s : ByteArray) (st : Sc) (c : Int) : Bool := decide (st.e = 0) && (decide (st.at_ < s.size) && decide (gb s st.at_ = c))
def mayS (s : ByteArray) (st : Sc) (c : Int) : Sc := if isB s st c = true then st.adv else st
def mustS (s : ByteArray) (st : Sc) (c : Int) : Sc := if isB s st c = true then st.adv else st.fail st.at_ 2
def hexI (c : Int) : Int := if 48 ≤ c ∧ c ≤ 57 then c - 48 else if 97 ≤ c ∧ c ≤ 102 then c - 87 else -1
def digitS (s : ByteArray) (st : Sc) : Int × Sc :=
  if st.e = 0 ∧ st.at_ < s.size ∧ 0 ≤ hexI (gb s st.at_) then (hexI (gb s st.at_), st.adv) else (0, st.fail st.at_ 2)
/-- May it stand behind a \ ? -/
def escC (c : Int) : Bool := c == 40 || c == 41 || c == 91 || c == 93 || c == 123 || c == 125 || c == 124 || c == 42 || c == 43 || c == 63 || c == 46 || c == 92 || c == 45 || c == 94
/-- May it not stand in a class? -/
def inC (c : Int) : Bool := c == 93 || c == 92 || c == 45 || c == 94
def escapeS (s : ByteArray) (st : Sc) : Int × Sc :=
  if isB s st 110 = true then (10, st.adv) else if isB s st 116 = true then (9, st.adv) else if isB s st 120 = true then
    ((digitS s st.adv).1 * 16 + (digitS s (digitS s st.adv).2).1, (digitS s (digitS s st.adv).2).2)
  else if st.at_ < s.size ∧ escC (gb s st.at_) = true then (gb s st.at_, st.adv) else (0, st.fail st.at_ 2)
def itemS (s : ByteArray) (st : Sc) : Int × Sc :=
  if isB s st 92 = true then escapeS s st.adv else if st.e = 0 ∧ st.at_ < s.size ∧ inC (gb s st.at_) = false then (gb s st.at_, st.adv) else (0, st.fail st.at_ 2)
/-- From which byte to which. -/
def itemsS (s : ByteArray) (st : Sc) : (Int × Int) × Sc :=
  if isB s (itemS s st).2 45 = true then
    (((itemS s st).1, (itemS s (itemS s st).2.adv).1), if (itemS s st).1 > (itemS s (itemS s st).2.adv).1 then (itemS s (itemS s st).2.adv).2.fail (itemS s st).2.at_ 2 else (itemS s (itemS s st).2.adv).2)
  else (((itemS s st).1, (itemS s st).1), (itemS s st).2)
def setGo (s : ByteArray) : Nat → (Nat → Bool) → Sc → (Nat → Bool) × Sc
  | 0, f, st => (f, st)
  | n + 1, f, st => if st.e = 0 then (if isB s st 93 = true then (f, st.adv) else setGo s n (fun q => f q || inR (itemsS s st).1.1 (itemsS s st).1.2 q) (itemsS s st).2) else (f, st)
def setS (s : ByteArray) (st : Sc) : (Nat → Bool) × Sc :=
  let st1 := mayS s st 94
  let r := setGo s (s.size + 3) (inR (itemsS s st1).1.1 (itemsS s st1).1.2) (itemsS s st1).2
  (if isB s st 94 = true then (fun q => !r.1 q) else r.1, r.2)
def digC (s : ByteArray) (a : Nat) : Prop := a < s.size ∧ 48 ≤ gb s a ∧ gb s a ≤ 57
instance (s : ByteArray) (a : Nat) : Decidable (digC s a) := inferInstanceAs (Decidable (_ ∧ _))
def numGo (s : ByteArray) : Nat → Int → Nat → Int × Nat
  | 0, n, a => (n, a)
  | k + 1, n, a => if digC s a then numGo s k (min (10 * n + (gb s a - 48)) 2147483648) (a + 1) else (n, a)
def numberS (s : ByteArray) (st : Sc) : Int × Sc :=
  if st.e = 0 then
    ((numGo s (s.size - st.at_) 0 st.at_).1,
      if (numGo s (s.size - st.at_) 0 st.at_).2 = st.at_ then ⟨st.at_, st.at_, 2⟩
      else if (numGo s (s.size - st.at_) 0 st.at_).1 > 2147483647 then ⟨(numGo s (s.size - st.at_) 0 st.at_).2, st.at_, 3⟩ else ⟨(numGo s (s.size - st.at_) 0 st.at_).2, st.pl, 0⟩)
  else (0, st)
/-- The second number, where there is a comma. -/
def times2 (s : ByteArray) (a : Int) (st : Sc) : Int × Sc :=
  if isB s st 44 = true then (if isB s st.adv 125 = true then (-1, st.adv) else numberS s st.adv) else (a, st)
def timesS (s : ByteArray) (st : Sc) : (Int × Int) × Sc :=
  let a := numberS s st
  let b := times2 s a.1 a.2
  let m := mustS s b.2 125
  ((a.1, b.1), if b.1 ≠ -1 ∧ a.1 > b.1 then m.fail ((st.at_ : Int) - 1) 2 else m)

/-! #### the machine -/
def zN : T := ⟨0, ⟨0, 0, 0, 0⟩, [], 0, 0⟩
def oneN (kind : Int) (l : List T) : T := match l with
  | [] => zN
  | [x] => x
  | x :: y :: r => ⟨kind, ⟨0, 0, 0, 0⟩, x :: y :: r, 0, 0⟩
def setN (f : Nat → Bool) : T := ⟨1, ⟨clsOf f 0, clsOf f 1, clsOf f 2, clsOf f 3⟩, [], 0, 0⟩
def timN (t : T) (lo hi : Int) : T := ⟨4, ⟨0, 0, 0, 0⟩, [t], lo, hi⟩
/-- A level: its rows, and the row that is being read. -/
structure Lv where
  rows : List T
  row : List T
namespace Lv
def close (v : Lv) : Lv := ⟨v.rows ++ [oneN 2 v.row], []⟩
def put (v : Lv) (t : T) : Lv := ⟨v.rows, v.row ++ [t]⟩
def rep (v : Lv) (lo hi : Int) : Lv := ⟨v.rows, v.row.dropLast ++ [timN (v.row.getLastD zN) lo hi]⟩
def done (v : Lv) : T := oneN 3 v.close.rows
end Lv
structure Mc where
  sc : Sc
  top : Lv
  rest : List Lv
namespace Mc
def repeat_ (m : Mc) (at_ lo hi : Int) : Mc := if m.top.row = [] then ⟨m.sc.fail at_ 2, m.top, m.rest⟩ else ⟨m.sc, m.top.rep lo hi, m.rest⟩
def put (m : Mc) (t : T) : Mc := ⟨m.sc, m.top.put t, m.rest⟩
end Mc
def stepM (s : ByteArray) (m : Mc) : Mc :=
  let at_ := m.sc.at_
  let c := gb s at_
  let m1 : Mc := ⟨m.sc.adv, m.top, m.rest⟩
  if c = 40 then ⟨m1.sc, ⟨[], []⟩, m.top :: m.rest⟩
  else if c = 41 then (match m.rest with
    | [] => ⟨m1.sc.fail at_ 2, m.top, []⟩
    | p :: r => ⟨m1.sc, p.put m.top.done, r⟩)
  else if c = 124 then ⟨m1.sc, m.top.close, m.rest⟩
  else if c = 42 then m1.repeat_ at_ 0 (-1)
  else if c = 43 then m1.repeat_ at_ 1 (-1)
  else if c = 63 then m1.repeat_ at_ 0 1
  else if c = 123 then (if m.top.row = [] then ⟨m1.sc.fail at_ 2, m.top, m.rest⟩ else ⟨(timesS s m1.sc).2, m.top.rep (timesS s m1.sc).1.1 (timesS s m1.sc).1.2, m.rest⟩)
  else if c = 46 then m1.put (setN (inR 0 255))
  else if c = 91 then ⟨(setS s m1.sc).2, m.top.put (setN (setS s m1.sc).1), m.rest⟩
  else if c = 92 then ⟨(escapeS s m1.sc).2, m.top.put (setN (fun q => decide ((q : Int) = (escapeS s m1.sc).1))), m.rest⟩
  else if c = 93 ∨ c = 125 then ⟨m1.sc.fail at_ 2, m.top, m.rest⟩
  else m1.put (setN (fun q => decide ((q : Int) = c)))
def goes (s : ByteArray) (st : Sc) : Prop := st.e = 0 ∧ st.at_ < s.size
instance (s : ByteArray) (st : Sc) : Decidable (goes s st) := inferInstanceAs (Decidable (_ ∧ _))
def runM (s : ByteArray) : Nat → Mc → Mc
  | 0, m => m
  | n + 1, m => if goes s m.sc then runM s n (stepM s m) else m
def endM (m : Mc) : Sc := match m.rest with
  | [] => m.sc
  | _ :: _ => m.sc.fail m.sc.at_ 2
mutual
def depthT : T → Nat
  | ⟨_, _, ps, _, _⟩ => depthL ps + 1
def depthL : List T → Nat
  | [] => 0
  | p :: ps => max (depthT p) (depthL ps)
end
mutual
def placesT : T → Nat
  | ⟨k, _, ps, _, _⟩ => (if k = 1 then 1 else 0) + placesL ps
def placesL : List T → Nat
  | [] => 0
  | p :: ps => placesT p + placesL ps
end
def wideT (t : T) : Prop := depthT t > 20 ∨ placesT t > 40
instance (t : T) : Decidable (wideT t) := inferInstanceAs (Decidable (_ ∨ _))
def m0 : Mc := ⟨⟨0, 0, 0⟩, ⟨[], []⟩, []⟩
/-- What a text is read as: the tree, the place, the error. -/
structure Out where
  t : T
  pl : Int
  e : Int
def parseS (s : ByteArray) : Out :=
  if s.size > 400 then ⟨zN, 0, 3⟩ else
  let m := runM s (s.size + 1) m0
  if (endM m).e ≠ 0 then ⟨zN, (endM m).pl, (endM m).e⟩ else if wideT m.top.done then ⟨zN, 0, 3⟩ else ⟨m.top.done, 0, 0⟩
end Go.Proofs.YtaohlmcgaggoeaaDoor.P
/- The document's reader, in plain words; it and the machine come to the same. -/
namespace Go.Proofs.YtaohlmcgaggoeaaDoor.P
open Go.RowKit Go.Proofs.YtaohlmcgaggoeaaDoor
set_option linter.unusedVariables false
set_option linter.unusedSimpArgs false
variable (s : ByteArray)

/-! #### where the scanner stops -/
def Le (a : Nat) (st : Sc) : Prop := a ≤ st.at_ ∧ st.at_ ≤ s.size
variable {s}
theorem Le.refl {st : Sc} (h : st.at_ ≤ s.size) : Le s st.at_ st := ⟨Nat.le_refl _, h⟩
theorem Le.trans {a : Nat} {st st' : Sc} (h : Le s a st) (h' : Le s st.at_ st') : Le s a st' := ⟨Nat.le_trans h.1 h'.1, h'.2⟩
theorem fail_at (st : Sc) (p e : Int) : (st.fail p e).at_ = st.at_ := by unfold Sc.fail; split <;> rfl
theorem Le.fail {a : Nat} {st : Sc} (h : Le s a st) (p e : Int) : Le s a (st.fail p e) := by unfold Le; rw [fail_at]; exact h
theorem Le.adv {a : Nat} {st : Sc} (h : Le s a st) (h' : st.at_ < s.size) : Le s a st.adv := ⟨by have := h.1; show a ≤ st.at_ + 1; omega, h'⟩
theorem isB_lt {st : Sc} {c : Int} (h : isB s st c = true) : st.e = 0 ∧ st.at_ < s.size ∧ gb s st.at_ = c := by
  unfold isB at h
  simpa using h
theorem le_may {st : Sc} (h : st.at_ ≤ s.size) (c : Int) : Le s st.at_ (mayS s st c) := by
  unfold mayS
  split
  · rename_i hb; exact (Le.refl h).adv (isB_lt hb).2.1
  · exact Le.refl h
theorem le_must {st : Sc} (h : st.at_ ≤ s.size) (c : Int) : Le s st.at_ (mustS s st c) := by
  unfold mustS
  split
  · rename_i hb; exact (Le.refl h).adv (isB_lt hb).2.1
  · exact (Le.refl h).fail _ _
theorem le_digit {st : Sc} (h : st.at_ ≤ s.size) : Le s st.at_ (digitS s st).2 := by
  unfold digitS
  split
  · rename_i hb; exact (Le.refl h).adv hb.2.1
  · exact (Le.refl h).fail _ _
theorem le_escape {st : Sc} (h : st.at_ ≤ s.size) : Le s st.at_ (escapeS s st).2 := by
  unfold escapeS
  split
  · rename_i hb; exact (Le.refl h).adv (isB_lt hb).2.1
  split
  · rename_i hb; exact (Le.refl h).adv (isB_lt hb).2.1
  split
  · rename_i hb
    have h1 := (Le.refl h).adv (isB_lt hb).2.1
    have h2 := le_digit h1.2
    exact h1.trans (h2.trans (le_digit h2.2))
  split
  · rename_i hb; exact (Le.refl h).adv hb.1
  · exact (Le.refl h).fail _ _
theorem le_item {st : Sc} (h : st.at_ ≤ s.size) : Le s st.at_ (itemS s st).2 := by
  unfold itemS
  split
  · rename_i hb
    have h1 := (Le.refl h).adv (isB_lt hb).2.1
    exact h1.trans (le_escape h1.2)
  split
  · rename_i hb; exact (Le.refl h).adv hb.2.1
  · exact (Le.refl h).fail _ _
theorem le_items {st : Sc} (h : st.at_ ≤ s.size) : Le s st.at_ (itemsS s st).2 := by
  have h0 := le_item h
  unfold itemsS
  split
  · rename_i hb
    have h1 := h0.trans ((Le.refl h0.2).adv (isB_lt hb).2.1)
    have h2 := h1.trans (le_item h1.2)
    dsimp only
    split
    · exact h2.fail _ _
    · exact h2
  · exact h0
theorem le_setGo : ∀ (n : Nat) (f : Nat → Bool) {st : Sc}, st.at_ ≤ s.size → Le s st.at_ (setGo s n f st).2
  | 0, f, st, h => Le.refl h
  | n + 1, f, st, h => by
    rw [setGo]
    split
    · split
      · rename_i hb; exact (Le.refl h).adv (isB_lt hb).2.1
      · exact (le_items h).trans (le_setGo n _ (le_items h).2)
    · exact Le.refl h
theorem le_set {st : Sc} (h : st.at_ ≤ s.size) : Le s st.at_ (setS s st).2 := by
  unfold setS
  have h1 := le_may h 94
  have h2 := h1.trans (le_items h1.2)
  exact h2.trans (le_setGo _ _ h2.2)
theorem numGo_at : ∀ (k : Nat) (n : Int) (a : Nat), a ≤ s.size → a ≤ (numGo s k n a).2 ∧ (numGo s k n a).2 ≤ s.size
  | 0, n, a, h => ⟨Nat.le_refl _, h⟩
  | k + 1, n, a, h => by
    rw [numGo]
    split
    · rename_i hd
      have := numGo_at k (min (10 * n + (gb s a - 48)) 2147483648) (a + 1) (by have := hd.1; omega)
      omega
    · exact ⟨Nat.le_refl _, h⟩
theorem le_number {st : Sc} (h : st.at_ ≤ s.size) : Le s st.at_ (numberS s st).2 := by
  unfold numberS
  split
  · have := numGo_at (s := s) (s.size - st.at_) 0 st.at_ h
    dsimp only
    split
    · exact Le.refl (st := ⟨st.at_, st.at_, 2⟩) h
    split
    · exact this
    · exact this
  · exact Le.refl h
theorem le_times2 {st : Sc} (a : Int) (h : st.at_ ≤ s.size) : Le s st.at_ (times2 s a st).2 := by
  unfold times2
  split
  · rename_i hb
    have h1 := (Le.refl h).adv (isB_lt hb).2.1
    split
    · exact h1
    · exact h1.trans (le_number h1.2)
  · exact Le.refl h
theorem le_times {st : Sc} (h : st.at_ ≤ s.size) : Le s st.at_ (timesS s st).2 := by
  unfold timesS
  have h1 := le_number h
  have h2 := h1.trans (le_times2 (numberS s st).1 h1.2)
  have h3 := h2.trans (le_must h2.2 125)
  dsimp only
  split
  · exact h3.fail _ _
  · exact h3
theorem step_at {m : Mc} (h : goes s m.sc) : Le s (m.sc.at_ + 1) (stepM s m).sc := by
  have h1 : Le s (m.sc.at_ + 1) m.sc.adv := ⟨Nat.le_refl _, h.2⟩
  have h2 : m.sc.adv.at_ ≤ s.size := h.2
  have hi : ∀ {c : Prop} [Decidable c] {a b : Mc}, Le s (m.sc.at_ + 1) a.sc → Le s (m.sc.at_ + 1) b.sc → Le s (m.sc.at_ + 1) (if c then a else b).sc := fun {c} _ {a b} ha hb => by
    split
    · exact ha
    · exact hb
  unfold stepM Mc.repeat_ Mc.put
  dsimp only
  refine hi h1 (hi ?_ (hi h1 (hi (hi (h1.fail _ _) h1) (hi (hi (h1.fail _ _) h1) (hi (hi (h1.fail _ _) h1) (hi (hi (h1.fail _ _) (h1.trans (le_times h2))) (hi h1 (hi (h1.trans (le_set h2)) (hi (h1.trans (le_escape h2)) (hi (h1.fail _ _) h1))))))))))
  split
  · exact h1.fail _ _
  · exact h1

/-! #### the machine's run -/
theorem runM_fuel : ∀ (n k : Nat) (m : Mc), s.size - m.sc.at_ < n → s.size - m.sc.at_ < k → runM s n m = runM s k m
  | 0, k, m, h, h' => by omega
  | n + 1, 0, m, h, h' => by omega
  | n + 1, k + 1, m, h, h' => by
    rw [runM, runM]
    split
    · rename_i hg
      have h1 := step_at hg
      have h2 := hg.2
      have h3 := h1.1
      exact runM_fuel n k _ (by omega) (by omega)
    · rfl
variable (s) in
def runF (m : Mc) : Mc := runM s (s.size + 1 - m.sc.at_) m
theorem runF_go {m : Mc} (h : goes s m.sc) : runF s m = runF s (stepM s m) := by
  have h1 := step_at h
  have h2 := h.2
  have h3 := h1.1
  have h4 := h1.2
  unfold runF
  obtain ⟨n, hn⟩ : ∃ n, s.size + 1 - m.sc.at_ = n + 1 := ⟨s.size - m.sc.at_, by omega⟩
  rw [hn, runM, if_pos h]
  exact runM_fuel _ _ _ (by omega) (by omega)
theorem runF_stop {m : Mc} (h : ¬ goes s m.sc) : runF s m = m := by
  unfold runF
  obtain ⟨n, hn⟩ : ∃ n, s.size + 1 - m.sc.at_ = n := ⟨_, rfl⟩
  rw [hn]
  cases n with
  | zero => rfl
  | succ n => rw [runM, if_neg h]

/-! #### the document's reader -/
theorem fail_ne {st : Sc} (h : st.e ≠ 0) (p e : Int) : st.fail p e = st := by unfold Sc.fail; rw [if_neg h]
theorem isB_ne {st : Sc} (h : st.e ≠ 0) (c : Int) : isB s st c = false := by unfold isB; rw [decide_eq_false h]; rfl
theorem must_ne {st : Sc} (h : st.e ≠ 0) (c : Int) : mustS s st c = st := by
  unfold mustS
  rw [isB_ne h, if_neg (by decide), fail_ne h]
theorem number_ne {st : Sc} (h : st.e ≠ 0) : numberS s st = (0, st) := by unfold numberS; rw [if_neg h]
theorem times2_ne {st : Sc} (h : st.e ≠ 0) (a : Int) : times2 s a st = (a, st) := by
  unfold times2
  rw [isB_ne h, if_neg (by decide)]
/-! #### both come to the same -/
theorem two_ne : (2 : Int) ≠ 0 := by decide
theorem endM_ne {m : Mc} (h : m.sc.e ≠ 0) : endM m = m.sc := by
  unfold endM
  split
  · rfl
  · exact fail_ne h _ _
theorem getLastD_snoc (row : List T) (t u : T) : (row ++ [t]).getLastD u = t := by simp
end Go.Proofs.YtaohlmcgaggoeaaDoor.P
/- Two texts, of which one holds the other: the scanner and the machine go alike on both. -/
namespace Go.Proofs.YtaohlmcgaggoeaaDoor.P
open Go.RowKit Go.Proofs.YtaohlmcgaggoeaaDoor
set_option linter.unusedVariables false
set_option linter.unusedSimpArgs false
/-- The text b has the text a from k on. -/
structure Ag (a b : ByteArray) (k : Nat) : Prop where
  sz : a.size + k ≤ b.size
  gb : ∀ i, i < a.size → gb b (i + k) = gb a i
section
variable {a b : ByteArray} {k : Nat} (H : Ag a b k)
include H
end
end Go.Proofs.YtaohlmcgaggoeaaDoor.P
/- Two texts, of which one holds the other: the machine goes alike on both; what stands between brackets. -/
namespace Go.Proofs.YtaohlmcgaggoeaaDoor.P
open Go.RowKit Go.Proofs.YtaohlmcgaggoeaaDoor
set_option linter.unusedVariables false
set_option linter.unusedSimpArgs false
section
variable {a b : ByteArray} {k : Nat} (H : Ag a b k) {base : List Lv}
include H
end
theorem parse_f (s : ByteArray) (hs : s.size ≤ 400) : parseS s = if (endM (runF s m0)).e ≠ 0 then ⟨zN, (endM (runF s m0)).pl, (endM (runF s m0)).e⟩ else if wideT (runF s m0).top.done then ⟨zN, 0, 3⟩ else ⟨(runF s m0).top.done, 0, 0⟩ := by
  have hr : runM s (s.size + 1) m0 = runF s m0 := rfl
  unfold parseS
  rw [if_neg (by omega)]
  dsimp only
  rw [hr]
/-- A text that is an expression: how the machine ends. -/
theorem parse_ok {s : ByteArray} (h : (parseS s).e = 0) : s.size ≤ 400 ∧ (runF s m0).sc.e = 0 ∧ (runF s m0).rest = [] ∧ (runF s m0).top.done = (parseS s).t ∧ ¬ wideT (parseS s).t ∧ parseS s = ⟨(parseS s).t, 0, 0⟩ := by
  have hs : s.size ≤ 400 := by
    by_cases hs : s.size ≤ 400
    · exact hs
    · unfold parseS at h
      rw [if_pos (by omega)] at h
      cases h
  rw [parse_f s hs] at h
  have hp := parse_f s hs
  by_cases he : (endM (runF s m0)).e = 0
  · rw [if_neg (fun x => x he)] at h hp
    by_cases hw : wideT (runF s m0).top.done
    · rw [if_pos hw] at h
      cases h
    · rw [if_neg hw] at hp
      have h0 : (runF s m0).sc.e = 0 := by
        by_cases h0 : (runF s m0).sc.e = 0
        · exact h0
        · rw [endM_ne h0] at he; exact he
      have hr : (runF s m0).rest = [] := by
        cases hr : (runF s m0).rest with
        | nil => rfl
        | cons p r =>
          unfold endM at he
          rw [hr] at he
          dsimp only at he
          unfold Sc.fail at he
          rw [if_pos h0] at he
          cases he
      rw [hp]
      exact ⟨hs, h0, hr, rfl, hw, rfl⟩
  · rw [if_pos he] at h
    exact absurd h he
/-! #### SyntaxBegins -/
section
variable {s : ByteArray} {st : Sc}
end
/-! #### SyntaxGroups, SyntaxRepeats -/
theorem step_open {s : ByteArray} {m : Mc} (h : gb s m.sc.at_ = 40) : stepM s m = ⟨m.sc.adv, ⟨[], []⟩, m.top :: m.rest⟩ := by simp [stepM, h]
theorem step_shut {s : ByteArray} {at_ : Nat} {pl : Int} {top p : Lv} {r : List Lv} (h : gb s at_ = 41) : stepM s ⟨⟨at_, pl, 0⟩, top, p :: r⟩ = ⟨⟨at_ + 1, pl, 0⟩, p.put top.done, r⟩ := by simp [stepM, h, Sc.adv]
theorem step_alt {s : ByteArray} {m : Mc} (h : gb s m.sc.at_ = 124) : stepM s m = ⟨m.sc.adv, m.top.close, m.rest⟩ := by simp [stepM, h]
/-- The text's end. -/
theorem parse_at_end {b : ByteArray} {pl : Int} {top : Lv} (hs : b.size ≤ 400) (h : runF b m0 = runF b ⟨⟨b.size, pl, 0⟩, top, []⟩) : parseS b = if wideT top.done then ⟨zN, 0, 3⟩ else ⟨top.done, 0, 0⟩ := by
  have hr : runF b ⟨⟨b.size, pl, 0⟩, top, []⟩ = ⟨⟨b.size, pl, 0⟩, top, []⟩ := runF_stop fun g => Nat.lt_irrefl _ g.2
  rw [parse_f b hs, h, hr]
  have hE : endM ⟨⟨b.size, pl, 0⟩, top, []⟩ = ⟨b.size, pl, 0⟩ := rfl
  rw [hE, if_neg (fun x => x rfl)]
theorem done_one (t : T) : (⟨[], [t]⟩ : Lv).done = t := rfl
end Go.Proofs.YtaohlmcgaggoeaaDoor.P
/- What is read is formed: plain. -/
namespace Go.Proofs.YtaohlmcgaggoeaaDoor.P
open Go.RowKit Go.Proofs.YtaohlmcgaggoeaaDoor
set_option linter.unusedVariables false
set_option linter.unusedSimpArgs false
abbrev Fo (l : List T) : Prop := ∀ t ∈ l, formedT t = true
theorem fo_nil : Fo [] := fun t h => by cases h
theorem fo_one {t : T} (h : formedT t = true) : Fo [t] := fun x hx => by rw [List.mem_singleton.1 hx]; exact h
theorem fo_app {l m : List T} (h : Fo l) (k : Fo m) : Fo (l ++ m) := fun t ht => by
  rcases List.mem_append.1 ht with ht | ht
  · exact h t ht
  · exact k t ht
theorem fo_any {l : List T} (h : Fo l) : (l.any fun y => !formedT y) = false := by
  rw [List.any_eq_false]
  intro x hx
  simp [h x hx]
theorem fo_zN : formedT zN = true := by rw [formedT_eq]; rfl
theorem fo_setN (f : Nat → Bool) : formedT (setN f) = true := by rw [formedT_eq]; rfl
theorem fo_oneN (k : Int) (hk : k = 2 ∨ k = 3) (l : List T) (h : Fo l) : formedT (oneN k l) = true := by
  match l, h with
  | [], h => exact fo_zN
  | [x], h => exact h x (by simp)
  | x :: y :: r, h =>
    rw [formedT_eq, show (oneN k (x :: y :: r)).f2 = x :: y :: r from rfl, fo_any h]
    rcases hk with rfl | rfl <;> simp [oneN, shapedB, emptyB]
theorem fo_timN (t : T) (lo hi : Int) (h : formedT t = true) (h0 : 0 ≤ lo) (h1 : lo ≤ 2147483647) (h2 : hi = -1 ∨ lo ≤ hi ∧ hi ≤ 2147483647) : formedT (timN t lo hi) = true := by
  rw [formedT_eq, show (timN t lo hi).f2 = [t] from rfl, fo_any (fo_one h)]
  simp [timN, shapedB, emptyB, h0, h1]
  exact h2.imp id fun h => ⟨decide_eq_true h.1, decide_eq_true h.2⟩
def FoL (v : Lv) : Prop := Fo v.rows ∧ Fo v.row
structure FoM (m : Mc) : Prop where
  top : FoL m.top
  rest : ∀ v ∈ m.rest, FoL v
theorem FoL.nil : FoL ⟨[], []⟩ := ⟨fo_nil, fo_nil⟩
theorem FoL.close {v : Lv} (h : FoL v) : FoL v.close := ⟨fo_app h.1 (fo_one (fo_oneN 2 (.inl rfl) _ h.2)), fo_nil⟩
theorem FoL.put {v : Lv} (h : FoL v) {t : T} (ht : formedT t = true) : FoL (v.put t) := ⟨h.1, fo_app h.2 (fo_one ht)⟩
theorem FoL.done {v : Lv} (h : FoL v) : formedT v.done = true := fo_oneN 3 (.inr rfl) _ h.close.1
theorem fo_last {l : List T} (h : Fo l) : formedT (l.getLastD zN) = true := by
  cases l with
  | nil => exact fo_zN
  | cons x r =>
    rw [List.getLastD_cons]
    cases r with
    | nil => exact h x (by simp)
    | cons y q =>
      have hne : y :: q ≠ [] := by simp
      have e : (y :: q).getLastD x = (y :: q).getLast hne := by rw [List.getLastD_eq_getLast?, List.getLast?_eq_some_getLast hne]; rfl
      rw [e]
      exact h _ (List.mem_cons_of_mem _ (List.getLast_mem hne))
theorem FoL.rep {v : Lv} (h : FoL v) {lo hi : Int} (h0 : 0 ≤ lo) (h1 : lo ≤ 2147483647) (h2 : hi = -1 ∨ lo ≤ hi ∧ hi ≤ 2147483647) : FoL (v.rep lo hi) :=
  ⟨h.1, fo_app (fun t ht => h.2 t ((List.dropLast_sublist _).subset ht)) (fo_one (fo_timN _ lo hi (fo_last h.2) h0 h1 h2))⟩
variable {s : ByteArray}
theorem fail_zero {st : Sc} {p e : Int} (he : e ≠ 0) (h : (st.fail p e).e = 0) : False := by
  unfold Sc.fail at h
  split at h
  · exact he h
  · rename_i h0; exact h0 h
theorem must_zero {st : Sc} {c : Int} (h : (mustS s st c).e = 0) : st.e = 0 := by
  unfold mustS at h
  split at h
  · exact h
  · exact (fail_zero two_ne h).elim
theorem numGo_nn : ∀ (k : Nat) (n : Int) (a : Nat), 0 ≤ n → 0 ≤ (numGo s k n a).1
  | 0, n, a, h => h
  | k + 1, n, a, h => by
    rw [numGo]
    split
    · rename_i hd
      exact numGo_nn k _ _ (by have := hd.2.1; omega)
    · exact h
theorem number_fo {st : Sc} (h : (numberS s st).2.e = 0) : st.e = 0 ∧ 0 ≤ (numberS s st).1 ∧ (numberS s st).1 ≤ 2147483647 := by
  unfold numberS at h ⊢
  split at h
  · rename_i h0
    rw [if_pos h0]
    dsimp only at h ⊢
    split at h
    · cases h
    · split at h
      · cases h
      · rename_i h2
        exact ⟨h0, numGo_nn _ _ _ (by omega), by omega⟩
  · rename_i h0; exact (h0 h).elim
theorem times2_fo {st : Sc} {a : Int} (ha : 0 ≤ a ∧ a ≤ 2147483647) (h : (times2 s a st).2.e = 0) : st.e = 0 ∧ ((times2 s a st).1 = -1 ∨ 0 ≤ (times2 s a st).1 ∧ (times2 s a st).1 ≤ 2147483647) := by
  unfold times2 at h ⊢
  split
  · rename_i h1
    rw [if_pos h1] at h
    split
    · exact ⟨(isB_lt h1).1, .inl rfl⟩
    · rename_i h2
      rw [if_neg h2] at h
      exact ⟨(isB_lt h1).1, .inr (number_fo h).2⟩
  · rename_i h1
    rw [if_neg h1] at h
    exact ⟨h, .inr ha⟩
theorem times2_zero {st : Sc} {a : Int} (h : (times2 s a st).2.e = 0) : st.e = 0 := by
  unfold times2 at h
  split at h
  · rename_i h1; exact (isB_lt h1).1
  · exact h
theorem times_fo {st : Sc} (h : (timesS s st).2.e = 0) : 0 ≤ (timesS s st).1.1 ∧ (timesS s st).1.1 ≤ 2147483647 ∧ ((timesS s st).1.2 = -1 ∨ (timesS s st).1.1 ≤ (timesS s st).1.2 ∧ (timesS s st).1.2 ≤ 2147483647) := by
  unfold timesS at h ⊢
  dsimp only at h ⊢
  split at h
  · exact (fail_zero two_ne h).elim
  · rename_i hc
    have h1 := must_zero h
    have h2 := number_fo (times2_zero h1)
    have h3 := (times2_fo h2.2 h1).2
    refine ⟨h2.2.1, h2.2.2, ?_⟩
    rcases h3 with h3 | h3
    · exact .inl h3
    · right; omega
theorem step_fo {m : Mc} (h : FoM m) (he : (stepM s m).sc.e = 0) : FoM (stepM s m) := by
  obtain ⟨sc, top, rest⟩ := m
  obtain ⟨ht, hr⟩ := h
  dsimp only at ht hr
  have hi : ∀ {c : Prop} [Decidable c] {x y : Mc}, (c → x.sc.e = 0 → FoM x) → (¬ c → y.sc.e = 0 → FoM y) → (if c then x else y).sc.e = 0 → FoM (if c then x else y) := fun {c} _ {x y} h1 h2 h3 => by
    by_cases hc : c
    · rw [if_pos hc] at h3 ⊢; exact h1 hc h3
    · rw [if_neg hc] at h3 ⊢; exact h2 hc h3
  revert he
  unfold stepM Mc.repeat_ Mc.put
  dsimp only
  refine hi (fun _ _ => ⟨FoL.nil, fun v hv => ?_⟩) fun _ => hi (fun _ he => ?_) fun _ => hi (fun _ _ => ⟨ht.close, hr⟩) fun _ => hi (fun _ => hi (fun _ he => (fail_zero two_ne he).elim) fun _ _ => ⟨ht.rep (by omega) (by omega) (.inl rfl), hr⟩) fun _ =>
    hi (fun _ => hi (fun _ he => (fail_zero two_ne he).elim) fun _ _ => ⟨ht.rep (by omega) (by omega) (.inl rfl), hr⟩) fun _ => hi (fun _ => hi (fun _ he => (fail_zero two_ne he).elim) fun _ _ => ⟨ht.rep (by omega) (by omega) (.inr (by omega)), hr⟩) fun _ =>
    hi (fun _ => hi (fun _ he => (fail_zero two_ne he).elim) fun _ he => ?_) fun _ => hi (fun _ _ => ⟨ht.put (fo_setN _), hr⟩) fun _ => hi (fun _ _ => ⟨ht.put (fo_setN _), hr⟩) fun _ => hi (fun _ _ => ⟨ht.put (fo_setN _), hr⟩) fun _ =>
    hi (fun _ he => (fail_zero two_ne he).elim) fun _ _ => ⟨ht.put (fo_setN _), hr⟩
  · rcases List.mem_cons.1 hv with rfl | hv
    · exact ht
    · exact hr v hv
  · cases rest with
    | nil => exact (fail_zero two_ne he).elim
    | cons p r => exact ⟨(hr p (by simp)).put ht.done, fun v hv => hr v (List.mem_cons_of_mem _ hv)⟩
  · have := times_fo he
    exact ⟨ht.rep this.1 this.2.1 this.2.2, hr⟩
theorem run_fo : ∀ (d : Nat) (m : Mc), s.size - m.sc.at_ ≤ d → FoM m → (runF s m).sc.e = 0 → FoM (runF s m)
  | d, m, hd, h, he => by
    by_cases hg : goes s m.sc
    · rw [runF_go hg] at he ⊢
      cases d with
      | zero => have := hg.2; omega
      | succ d =>
        have h1 := (step_at hg).1
        by_cases h0 : (stepM s m).sc.e = 0
        · exact run_fo d _ (by omega) (step_fo h h0) he
        · rw [runF_stop (fun g => h0 g.1)] at he
          exact (h0 he).elim
    · rw [runF_stop hg]; exact h
/-- A tree that comes is formed. -/
theorem parse_formed (h : (parseS s).e = 0) : formedT (parseS s).t = true := by
  obtain ⟨_, h1, _, h3, _⟩ := parse_ok h
  rw [← h3]
  exact (run_fo _ m0 (Nat.le_refl _) ⟨FoL.nil, fun v hv => by cases hv⟩ h1).top.done
end Go.Proofs.YtaohlmcgaggoeaaDoor.P
/- Numbers in a text: what the reader makes of their digits; SyntaxBounds, SyntaxRepeats in plain words. -/
namespace Go.Proofs.YtaohlmcgaggoeaaDoor.P
open Go.RowKit Go.Proofs.YtaohlmcgaggoeaaDoor
set_option linter.unusedVariables false
set_option linter.unusedSimpArgs false
/-- A number's digits. -/
def digL (n : Nat) : List UInt8 := if h : n > 9 then digL (n / 10) ++ [UInt8.ofNat (48 + n % 10)] else [UInt8.ofNat (48 + n)]
termination_by n
decreasing_by omega
theorem digL_big {n : Nat} (h : n > 9) : digL n = digL (n / 10) ++ [UInt8.ofNat (48 + n % 10)] := by rw [digL, dif_pos h]
theorem digL_small {n : Nat} (h : ¬ n > 9) : digL n = [UInt8.ofNat (48 + n)] := by rw [digL, dif_neg h]
theorem ofNat_val {k : Nat} (h : k < 256) : (UInt8.ofNat k).toNat = k := by simp [UInt8.toNat_ofNat']; omega
def isDig (c : UInt8) : Prop := 48 ≤ c.toNat ∧ c.toNat ≤ 57
theorem digL_dig (n : Nat) : ∀ c ∈ digL n, isDig c := by
  induction n using Nat.strongRecOn with
  | ind n ih =>
    intro c hc
    by_cases h : n > 9
    · rw [digL_big h] at hc
      rcases List.mem_append.1 hc with hc | hc
      · exact ih _ (by omega) c hc
      · obtain rfl := List.mem_singleton.1 hc
        unfold isDig
        rw [ofNat_val (by omega)]
        omega
    · rw [digL_small h] at hc
      obtain rfl := List.mem_singleton.1 hc
      unfold isDig
      rw [ofNat_val (by omega)]
      omega
def valL (v : Nat) (l : List UInt8) : Nat := l.foldl (fun v c => 10 * v + (c.toNat - 48)) v
theorem digL_val (n : Nat) : valL 0 (digL n) = n := by
  induction n using Nat.strongRecOn with
  | ind n ih =>
    by_cases h : n > 9
    · rw [digL_big h]
      unfold valL at *
      rw [List.foldl_append, ih _ (by omega)]
      simp only [List.foldl_cons, List.foldl_nil]
      rw [ofNat_val (by omega)]
      omega
    · rw [digL_small h]
      unfold valL
      simp only [List.foldl_cons, List.foldl_nil]
      rw [ofNat_val (by omega)]
      omega
theorem digL_len (n : Nat) : 1 ≤ (digL n).length := by
  by_cases h : n > 9
  · rw [digL_big h]; simp
  · rw [digL_small h]; simp
theorem digL_len_le {d : Nat} : ∀ {n : Nat}, n < 10 ^ (d + 1) → (digL n).length ≤ d + 1 := by
  induction d with
  | zero => intro n h; rw [digL_small (by omega)]; simp
  | succ d ih =>
    intro n h
    by_cases h9 : n > 9
    · rw [digL_big h9, List.length_append]
      have := ih (n := n / 10) (by rw [Nat.pow_succ] at h; omega)
      simp
      exact this
    · rw [digL_small h9]; simp
/-- A row of bytes stands in a text. -/
def At (s : ByteArray) (i : Nat) (l : List UInt8) : Prop := i + l.length ≤ s.size ∧ ∀ j (h : j < l.length), gb s (i + j) = (l[j].toNat : Int)
theorem At.tail {s : ByteArray} {i : Nat} {c : UInt8} {l : List UInt8} (h : At s i (c :: l)) : At s (i + 1) l := by
  refine ⟨by have := h.1; rw [List.length_cons] at this; omega, fun j hj => ?_⟩
  have := h.2 (j + 1) (by rw [List.length_cons]; omega)
  rw [show i + (j + 1) = i + 1 + j by omega] at this
  exact this
theorem At.head {s : ByteArray} {i : Nat} {c : UInt8} {l : List UInt8} (h : At s i (c :: l)) : gb s i = (c.toNat : Int) := h.2 0 (by simp)
theorem At.left {s : ByteArray} {i : Nat} {l m : List UInt8} (h : At s i (l ++ m)) : At s i l := by
  refine ⟨by have := h.1; rw [List.length_append] at this; omega, fun j hj => ?_⟩
  have := h.2 j (by rw [List.length_append]; omega)
  rw [List.getElem_append_left hj] at this
  exact this
theorem At.right {s : ByteArray} {i : Nat} {l m : List UInt8} (h : At s i (l ++ m)) : At s (i + l.length) m := by
  refine ⟨by have := h.1; rw [List.length_append] at this; omega, fun j hj => ?_⟩
  have := h.2 (l.length + j) (by rw [List.length_append]; omega)
  rw [List.getElem_append_right (by omega)] at this
  rw [show i + l.length + j = i + (l.length + j) by omega, this]
  congr 3
  omega
theorem numGo_list {s : ByteArray} : ∀ (l : List UInt8) (k i v : Nat), At s i l → (∀ c ∈ l, isDig c) → ¬ digC s (i + l.length) → l.length ≤ k →
    numGo s k (min (v : Int) 2147483648) i = (min ((valL v l : Nat) : Int) 2147483648, i + l.length)
  | [], k, i, v, h, hd, hs, hk => by
    have : numGo s k (min (v : Int) 2147483648) i = (min (v : Int) 2147483648, i) := by
      cases k with
      | zero => rfl
      | succ k => rw [numGo, if_neg (show ¬ digC s i from hs)]
    rw [this]
    rfl
  | c :: l, 0, i, v, h, hd, hs, hk => by simp at hk
  | c :: l, k + 1, i, v, h, hd, hs, hk => by
    have hc := hd c (List.mem_cons_self ..)
    have hg := h.head
    have hd1 : digC s i := by
      unfold digC
      rw [hg]
      have := h.1
      rw [List.length_cons] at this
      unfold isDig at hc
      omega
    rw [numGo, if_pos hd1, hg]
    have ih := numGo_list l k (i + 1) (10 * v + (c.toNat - 48)) h.tail (fun x hx => hd x (List.mem_cons_of_mem _ hx)) (by rw [List.length_cons] at hs; rw [show i + 1 + l.length = i + (l.length + 1) by omega]; exact hs) (by rw [List.length_cons] at hk; omega)
    have e1 : min (10 * min (v : Int) 2147483648 + ((c.toNat : Int) - 48)) 2147483648 = min ((10 * v + (c.toNat - 48) : Nat) : Int) 2147483648 := by
      unfold isDig at hc
      omega
    rw [e1, ih, List.length_cons, show i + 1 + l.length = i + (l.length + 1) by omega]
    rfl
/-- A number in a text, and what isn't a digit behind it. -/
theorem number_dig {s : ByteArray} {i n : Nat} {pl : Int} (h : At s i (digL n)) (hs : ¬ digC s (i + (digL n).length)) :
    numberS s ⟨i, pl, 0⟩ = (min (n : Int) 2147483648, if n > 2147483647 then ⟨i + (digL n).length, i, 3⟩ else ⟨i + (digL n).length, pl, 0⟩) := by
  have hl := h.1
  have hp := digL_len n
  have := numGo_list (digL n) (s.size - i) i 0 h (digL_dig n) hs (by omega)
  rw [digL_val, show min ((0 : Nat) : Int) 2147483648 = 0 by omega] at this
  unfold numberS
  rw [if_pos rfl]
  dsimp only
  rw [this]
  dsimp only
  rw [if_neg (by omega)]
  by_cases hn : n > 2147483647
  · rw [if_pos hn, if_pos (by omega)]
  · rw [if_neg hn, if_neg (by omega)]
theorem not_dig {s : ByteArray} {i : Nat} {c : Int} (h : gb s i = c) (hc : c < 48 ∨ 57 < c) : ¬ digC s i := by
  unfold digC
  rw [h]
  omega
theorem isB_at {s : ByteArray} {i : Nat} {pl c d : Int} (h : gb s i = d) (hi : i < s.size) : isB s ⟨i, pl, 0⟩ c = decide (d = c) := by
  unfold isB
  dsimp only
  rw [h, decide_eq_true hi]
  simp
/-- What a pair of numbers comes to: in brackets, from i on. -/
def timesV (i : Nat) (pl : Int) (lo hi : Nat) : (Int × Int) × Sc :=
  if lo > 2147483647 then ((2147483648, 2147483648), ⟨i + (digL lo).length, i, 3⟩)
  else if hi > 2147483647 then ((lo, 2147483648), ⟨i + (digL lo).length + 1 + (digL hi).length, (i : Int) + (digL lo).length + 1, 3⟩)
  else if lo > hi then ((lo, hi), ⟨i + (digL lo).length + 1 + (digL hi).length + 1, (i : Int) - 1, 2⟩)
  else ((lo, hi), ⟨i + (digL lo).length + 1 + (digL hi).length + 1, pl, 0⟩)
theorem times_two {s : ByteArray} {i lo hi : Nat} {pl : Int} (h1 : At s i (digL lo)) (h2 : gb s (i + (digL lo).length) = 44) (h3 : At s (i + (digL lo).length + 1) (digL hi)) (h4 : gb s (i + (digL lo).length + 1 + (digL hi).length) = 125)
    (h5 : i + (digL lo).length + 1 + (digL hi).length < s.size) : timesS s ⟨i, pl, 0⟩ = timesV i pl lo hi := by
  have n1 := number_dig (pl := pl) h1 (not_dig h2 (by omega))
  unfold timesS timesV
  dsimp only
  rw [n1]
  dsimp only
  by_cases hl : lo > 2147483647
  · rw [if_pos hl, if_pos hl, times2_ne (by dsimp only; decide)]
    dsimp only
    rw [must_ne (by dsimp only; decide), if_neg (by omega), show min (lo : Int) 2147483648 = 2147483648 by omega]
  · rw [if_neg hl, if_neg hl]
    have b1 := isB_at (s := s) (i := i + (digL lo).length) (pl := pl) (c := 44) h2 (by omega)
    have n2 := number_dig (pl := pl) h3 (not_dig h4 (by omega))
    have b2 := isB_at (s := s) (i := i + (digL lo).length + 1) (pl := pl) (c := 125) rfl (by have := digL_len hi; omega)
    have hne : gb s (i + (digL lo).length + 1) ≠ 125 := by
      have := digL_dig hi _ (List.getElem_mem (show 0 < (digL hi).length by have := digL_len hi; omega))
      have e := h3.2 0 (by have := digL_len hi; omega)
      unfold isDig at this
      rw [Nat.add_zero] at e
      rw [e]
      omega
    rw [decide_eq_false hne] at b2
    unfold times2
    rw [b1, decide_eq_true rfl, if_pos rfl]
    unfold Sc.adv
    dsimp only
    rw [b2, if_neg (by decide), n2]
    dsimp only
    by_cases hh : hi > 2147483647
    · rw [if_pos hh, if_pos hh, must_ne (by dsimp only; decide), fail_ne (by dsimp only; decide), show min (lo : Int) 2147483648 = lo by omega, show min (hi : Int) 2147483648 = 2147483648 by omega]
      simp
    · rw [if_neg hh, if_neg hh]
      have b3 := isB_at (s := s) (i := i + (digL lo).length + 1 + (digL hi).length) (pl := pl) (c := 125) h4 h5
      unfold mustS
      rw [b3, decide_eq_true rfl, if_pos rfl, show min (lo : Int) 2147483648 = lo by omega, show min (hi : Int) 2147483648 = hi by omega]
      by_cases hlt : lo > hi
      · rw [if_pos hlt, if_pos (by omega)]
        rfl
      · rw [if_neg hlt, if_neg (by omega)]
        rfl
/-- With no second number. -/
def timesO (i : Nat) (pl : Int) (lo : Nat) : (Int × Int) × Sc :=
  if lo > 2147483647 then ((2147483648, 2147483648), ⟨i + (digL lo).length, i, 3⟩)
  else ((lo, -1), ⟨i + (digL lo).length + 2, pl, 0⟩)
theorem times_open {s : ByteArray} {i lo : Nat} {pl : Int} (h1 : At s i (digL lo)) (h2 : gb s (i + (digL lo).length) = 44) (h3 : gb s (i + (digL lo).length + 1) = 125) (h4 : i + (digL lo).length + 1 < s.size) :
    timesS s ⟨i, pl, 0⟩ = timesO i pl lo := by
  have n1 := number_dig (pl := pl) h1 (not_dig h2 (by omega))
  unfold timesS timesO
  dsimp only
  rw [n1]
  dsimp only
  by_cases hl : lo > 2147483647
  · rw [if_pos hl, if_pos hl, times2_ne (by dsimp only; decide)]
    dsimp only
    rw [must_ne (by dsimp only; decide), if_neg (by omega), show min (lo : Int) 2147483648 = 2147483648 by omega]
  · rw [if_neg hl, if_neg hl]
    have b1 := isB_at (s := s) (i := i + (digL lo).length) (pl := pl) (c := 44) h2 (by omega)
    have b2 := isB_at (s := s) (i := i + (digL lo).length + 1) (pl := pl) (c := 125) h3 h4
    unfold times2 mustS
    rw [b1, decide_eq_true rfl, if_pos rfl]
    unfold Sc.adv
    dsimp only
    rw [b2, decide_eq_true rfl, if_pos rfl]
    dsimp only
    rw [b2, decide_eq_true rfl, if_pos rfl, show min (lo : Int) 2147483648 = lo by omega, if_neg (by omega)]
theorem step_brace {s : ByteArray} {m : Mc} (h : gb s m.sc.at_ = 123) (hr : m.top.row ≠ []) : stepM s m = ⟨(timesS s m.sc.adv).2, m.top.rep (timesS s m.sc.adv).1.1 (timesS s m.sc.adv).1.2, m.rest⟩ := by simp [stepM, h, hr]
end Go.Proofs.YtaohlmcgaggoeaaDoor.P
/- Bytes told by two digits: what the reader makes of them, in plain words. -/
namespace Go.Proofs.YtaohlmcgaggoeaaDoor.P
open Go.RowKit Go.Proofs.YtaohlmcgaggoeaaDoor
set_option linter.unusedVariables false
set_option linter.unusedSimpArgs false
/-- At i stands a byte told by two digits. -/
structure HexAt (s : ByteArray) (i : Nat) (a : Int) : Prop where
  sz : i + 4 ≤ s.size
  c0 : gb s i = 92
  c1 : gb s (i + 1) = 120
  hi : 0 ≤ hexI (gb s (i + 2))
  lo : 0 ≤ hexI (gb s (i + 3))
  val : hexI (gb s (i + 2)) * 16 + hexI (gb s (i + 3)) = a
theorem digit_at {s : ByteArray} {i : Nat} {pl : Int} (hi : i < s.size) (h : 0 ≤ hexI (gb s i)) : digitS s ⟨i, pl, 0⟩ = (hexI (gb s i), ⟨i + 1, pl, 0⟩) := by
  unfold digitS
  rw [if_pos ⟨rfl, hi, h⟩]
  rfl
section
variable {s : ByteArray} {i : Nat} {a pl : Int} (h : HexAt s i a)
include h
end
theorem step_esc {s : ByteArray} {m : Mc} (h : gb s m.sc.at_ = 92) : stepM s m = ⟨(escapeS s m.sc.adv).2, m.top.put (setN (fun q => decide ((q : Int) = (escapeS s m.sc.adv).1))), m.rest⟩ := by simp [stepM, h]
theorem step_set {s : ByteArray} {m : Mc} (h : gb s m.sc.at_ = 91) : stepM s m = ⟨(setS s m.sc.adv).2, m.top.put (setN (setS s m.sc.adv).1), m.rest⟩ := by simp [stepM, h]
theorem setN_thin (f : Nat → Bool) : ¬ wideT (setN f) := by unfold wideT; simp [setN, depthT, depthL, placesT, placesL]
end Go.Proofs.YtaohlmcgaggoeaaDoor.P
/- Texts as lists of bytes; texts put together. -/
namespace Go.Proofs.YtaohlmcgaggoeaaDoor.P
open Go.RowKit Go.Proofs.YtaohlmcgaggoeaaDoor
set_option linter.unusedVariables false
set_option linter.unusedSimpArgs false
abbrev tx (l : List UInt8) : ByteArray := ⟨l.toArray⟩
theorem tx_size (l : List UInt8) : (tx l).size = l.length := by show l.toArray.size = _; simp
theorem gb_tx (l : List UInt8) (i : Nat) (h : i < l.length) : gb (tx l) i = (l[i].toNat : Int) := by
  unfold gb
  rw [dif_pos (by rw [tx_size]; exact h)]
  rfl
theorem at_all (l : List UInt8) : At (tx l) 0 l := ⟨by rw [tx_size]; omega, fun j hj => by rw [Nat.zero_add]; exact gb_tx l j hj⟩
/-- Strings put together, under a name of its own. -/
def AddS (x y : ByteArray) : Sem Value := Op.stringOp .add x y
theorem addS (x y : ByteArray) : Op.stringOp .add x y = AddS x y := rfl
theorem adds_run {P : Program} (W : World) (l m : List UInt8) (h : l.length + m.length ≤ 1000000000) : (AddS (tx l) (tx m)).run P W = .ok (.string (tx (l ++ m))) W := by
  have h1 := run_string_add_sum (P := P) W (tx l) (tx m) (by rw [tx_size, tx_size]; omega)
  have h2 : tx l ++ tx m = tx (l ++ m) := by
    apply ByteArray.ext
    simp
  rw [h2] at h1
  exact h1
end Go.Proofs.YtaohlmcgaggoeaaDoor.P
