/- The walks of Same and awake; the plain law of the bytes of requests. -/
import Derived.Test.YtdepbaoechnekaaProg
import Derived.Test.YtdepbaoechnekaaK1
import Derived.Test.YtdepbaoechnekaaReqW
import Derived.Test.YtdepbaoechnekaaReqO
import Derived.Test.YtdepbaoechnekaaReqE
import Derived.Test.YtdepbaoechnekaaReqR
import Derived.Test.YtdepbaoechnekaaReqD
import Derived.WalkKit
import Derived.LoopTactic
import Derived.BigQuiet
import Derived.Deep.QuietTactic
import Derived.WalkSpells
import Derived.Outline
namespace Go.Proofs.Ytdepbaoechnekaa
open Go.RowKit

/-! Plain laws of bytes. -/
theorem num_cons (x : UInt8) (t : List UInt8) : num (x :: t) = x.toNat * 256 ^ t.length + num t := by
  suffices h : ∀ (t : List UInt8) (s : Nat), t.foldl (fun a b => a * 256 + b.toNat) s = s * 256 ^ t.length + num t by
    have := h t (0 * 256 + x.toNat)
    rw [Nat.zero_mul, Nat.zero_add] at this
    simpa [num] using this
  intro t
  induction t with
  | nil => simp [num]
  | cons y t ih =>
    intro s
    have e1 := ih (s * 256 + y.toNat)
    have e2 := ih (0 * 256 + y.toNat)
    rw [List.foldl_cons, e1]
    have e3 : num (y :: t) = (0 * 256 + y.toNat) * 256 ^ t.length + num t := e2
    rw [e3, List.length_cons, Nat.pow_succ]
    simp only [Nat.add_mul, Nat.zero_mul, Nat.zero_add]
    have : s * 256 * 256 ^ t.length = s * (256 ^ t.length * 256) := by rw [Nat.mul_assoc, Nat.mul_comm 256]
    omega
theorem be_mod (x m k : Nat) : be (x * 256 ^ k + m) k = be m k := by
  suffices h : ∀ j, j ≤ k → be (x * 256 ^ k + m) j = be m j from h k (Nat.le_refl _)
  intro j
  induction j with
  | zero => intro _; rfl
  | succ j ih =>
    intro hj
    rw [be, be, ih (by omega)]
    congr 1
    obtain ⟨d, hd⟩ : ∃ d, k = j + 1 + d := ⟨k - (j + 1), by omega⟩
    have e : x * 256 ^ k = (x * 256 ^ d * 256) * 256 ^ j := by
      rw [hd, Nat.pow_add, Nat.pow_succ]
      ac_rfl
    rw [e, Nat.add_comm, Nat.add_mul_div_right _ _ (Nat.pow_pos (by omega))]
    apply UInt8.toNat_inj.1
    rw [UInt8.toNat_ofNat', UInt8.toNat_ofNat']
    omega
theorem be_num (t : List UInt8) : be (num t) t.length = t := by
  induction t with
  | nil => rfl
  | cons x t ih =>
    rw [num_cons, List.length_cons, be, be_mod, ih]
    congr 1
    have hlt := num_lt t
    rw [Nat.add_comm, Nat.add_mul_div_right _ _ (Nat.pow_pos (by omega)), Nat.div_eq_of_lt hlt, Nat.zero_add]
    exact UInt8.ofNat_toNat
theorem num_be (n k : Nat) (h : n < 256 ^ k) : num (be n k) = n := by
  suffices hh : ∀ k n, num (be n k) = n % 256 ^ k by rw [hh, Nat.mod_eq_of_lt h]
  intro k
  induction k with
  | zero => intro n; simp [be, num, Nat.mod_one]
  | succ k ih =>
    intro n
    have e := Nat.mod_mul (x := n) (a := 256 ^ k) (b := 256)
    rw [be, num_cons, be_length, ih, UInt8.toNat_ofNat', show 256 ^ (k + 1) = 256 ^ k * 256 from rfl, e, Nat.mul_comm, Nat.add_comm]

/-- Reading without a fault. -/
theorem rdNum_ok {p : RdSt} {n : Nat} (h : (rdNumR p n).2 = false) : p.2 = false ∧ p.1 = be (rdNum p n) n ++ (rdNumR p n).1 := by
  simp only [rdNumR, tkBad, Bool.or_eq_false_iff, decide_eq_false_iff_not] at h
  obtain ⟨h1, h2⟩ := h
  have hb : tkBad p.1 p.2 n = false := by simp [tkBad, h1]; omega
  refine ⟨h1, ?_⟩
  simp only [rdNum, rdNumR, tk, tkRest, hb, Bool.false_eq_true, if_false]
  have hl : (p.1.take n).length = n := by rw [List.length_take]; omega
  have := be_num (p.1.take n)
  rw [hl] at this
  rw [this, List.take_append_drop]
theorem rdText_ok {p : RdSt} (h : (rdTextR p).2 = false) : p.2 = false ∧ p.1 = be (rdText p).length 2 ++ rdText p ++ (rdTextR p).1 := by
  simp only [rdTextR, tkBad, Bool.or_eq_false_iff, decide_eq_false_iff_not] at h
  obtain ⟨h1, h2⟩ := h
  obtain ⟨h3, h4⟩ := rdNum_ok h1
  have hb : tkBad (rdNumR p 2).1 (rdNumR p 2).2 (rdNum p 2) = false := by simp [tkBad, h1]; omega
  refine ⟨h3, ?_⟩
  simp only [rdText, rdTextR, tk, tkRest, hb, Bool.false_eq_true, if_false]
  have hl : ((rdNumR p 2).1.take (rdNum p 2)).length = rdNum p 2 := by rw [List.length_take]; omega
  rw [hl, List.append_assoc, List.take_append_drop]
  exact h4
theorem enc_dec (l : List UInt8) (h : (dec l).ok = true) : enc (dec l).K ⟨(dec l).a.toArray⟩ ⟨(dec l).b.toArray⟩ (dec l).W (dec l).N = l := by
  simp only [Dec.ok, Bool.and_eq_true, Bool.not_eq_true', decide_eq_true_eq] at h
  obtain ⟨⟨h1, h2⟩, _⟩ := h
  simp only [dec] at h1 h2
  have a5 := rdNum_ok h1
  have a4 := rdText_ok a5.1
  have a3 := rdText_ok a4.1
  have a2 := rdText_ok a3.1
  have a1 := rdNum_ok a2.1
  have e5 := a5.2
  rw [h2, List.append_nil] at e5
  simp only [enc, dec, bsize, Int.toNat_natCast, List.nil_append]
  conv => rhs; rw [show l = (l, false).1 from rfl, a1.2, a2.2, a3.2, a4.2, e5]
  simp only [List.append_assoc]

theorem tk_app (t r : List UInt8) : tk (t ++ r) false t.length = t ∧ tkRest (t ++ r) false t.length = r ∧ tkBad (t ++ r) false t.length = false := by
  have hb : tkBad (t ++ r) false t.length = false := by simp [tkBad]
  simp [tk, tkRest, hb]
theorem rdNum_app (n k : Nat) (h : n < 256 ^ k) (r : List UInt8) : rdNum (be n k ++ r, false) k = n ∧ rdNumR (be n k ++ r, false) k = (r, false) := by
  obtain ⟨h1, h2, h3⟩ := tk_app (be n k) r
  rw [be_length] at h1 h2 h3
  simp only [rdNum, rdNumR, h1, h2, h3, num_be n k h, and_self]
theorem rdText_app (s r : List UInt8) (h : s.length < 65536) : rdText (be s.length 2 ++ (s ++ r), false) = s ∧ rdTextR (be s.length 2 ++ (s ++ r), false) = (r, false) := by
  obtain ⟨h1, h2⟩ := rdNum_app s.length 2 (by omega) (s ++ r)
  obtain ⟨h3, h4, h5⟩ := tk_app s r
  simp only [rdText, rdTextR, h1, h2, h3, h4, h5, and_self]
theorem dec_enc (K : Int) (a b : ByteArray) (W : List UInt8) (N : Int) (h : formB K a.size b.size W.length N = true) :
    dec (enc K a b W N) = ⟨K.toNat, a.data.toList, b.data.toList, W, N.toNat, ([], false)⟩ := by
  obtain ⟨h1, h2, h3, h4, h5, h6, h7⟩ := formB_true h
  have ea : a.data.toList.length = a.size := by simp
  have eb : b.data.toList.length = b.size := by simp
  have e : enc K a b W N = be K.toNat 1 ++ (be a.data.toList.length 2 ++ (a.data.toList ++ (be b.data.toList.length 2 ++ (b.data.toList ++ (be W.length 2 ++ (W ++ (be N.toNat 4 ++ []))))))) := by
    rw [ea, eb]
    simp only [enc, List.append_assoc, List.nil_append, List.append_nil]
  rw [e]
  simp only [dec, rdNum_app K.toNat 1 (by omega), rdText_app a.data.toList _ (by omega), rdText_app b.data.toList _ (by omega), rdText_app W _ (by omega), rdNum_app N.toNat 4 (by omega)]

/-! Same, awake. -/
theorem same_any (K N : Int) (a b : ByteArray) (W : List UInt8) (A A' : Option Addr) (c c' : Nat) (w : World) (hs : Sl w A c (byc W)) (hs' : Sl w A' c' (byc W)) :
    Calls Try.prog 11 #[.agg #[.int .i64 K, .string a, .string b, .slice A W.length c, .int .i64 N], .agg #[.int .i64 K, .string a, .string b, .slice A' W.length c', .int .i64 N]] w fun e w' =>
      e = .returned (.bool true) ∧ Below w.heap.size w w' := by
  have h1 := fun o o' => sl_string ((hs.alloc o).alloc o')
  have h2 := fun o o' => sl_string ((hs'.alloc o).alloc o')
  go_enter Try.func11, Try.ntmps11
  go_wp2
  go_ret
  exact ⟨rfl, ((Below.refl _ w).alloc (Nat.le_refl _) _).alloc (by simp) _⟩

theorem awake_any (w : World) :
    Calls Try.prog 7 #[] w fun e w' => e = .returned (.bool true) ∧ Below w.heap.size w w' := by
  go_enter Try.func7, Try.ntmps7
  go_wp2_with fail
  refine (encode_any 2 0 ⟨#[97]⟩ ⟨#[]⟩ [] none 0 w (Sl.none_ w) (by decide)).mono ?_
  rintro e w1 ⟨A, c, rfl, hs, hb⟩
  have hl : (enc 2 ⟨#[97]⟩ ⟨#[]⟩ [] 0) = [2, 0, 1, 97, 0, 0, 0, 0, 0, 0, 0, 0] := by decide
  rw [hl] at hs ⊢
  obtain ⟨ad, rfl, hc⟩ := hs.at_ (k := 3) (by decide)
  have hc' : w1.cell? ⟨ad.block, ad.off + 3, none⟩ = some (.int .u8 97) := hc
  clear hc hl
  go_wp2
  go_ret
  exact ⟨rfl, hb⟩
end Go.Proofs.Ytdepbaoechnekaa
