/- A number's digits: the walk; SyntaxBounds' text. -/
import Derived.Test.YtmkcbbamfkafmaaME
namespace Go.Proofs.Ytmkcbbamfkafmaa.P
open Go.RowKit Go.Proofs.Ytmkcbbamfkafmaa Go.Proofs.YtmkcbbamfkafmaaW.PrintWords Go.Proofs.YtmkcbbamfkafmaaW.PrintLast Go.Proofs.YtmkcbbamfkafmaaW.PrintMore
set_option linter.unusedVariables false
set_option linter.unusedSimpArgs false
attribute [local go_sem ↓] addS
theorem conv1 (k : Nat) (w : World) (b : UInt8) (h0 : w.cell? ⟨k, 0, none⟩ = some (.int .u8 (b.toNat : Int))) :
    (convert 53 9 (.slice (some ⟨k, 0, none⟩) 1 1)).run Try.prog w = .ok (.string ⟨#[b]⟩) w := by
  refine run_convert_bytes_back w _ _ _ ⟨k, 0, none⟩ 1 [b] Try.underlying53 Try.underlying5 Try.underlying9 fun j hj => ?_
  match j, hj with
  | 0, _ => exact h0
theorem digL_le (m : Nat) (hm : m ≤ 8589934592) : (digL m).length ≤ 11 := digL_len_le (d := 10) (by omega)
set_option maxHeartbeats 1000000 in
theorem digits_any (m : Nat) (hm : m ≤ 8589934592) (w : World) :
    Calls Try.prog 12 #[.int .u64 (m : Int)] w fun e w' => e = .returned (.string (tx (digL m))) ∧ Below w.heap.size w w' := by
  have hle := digL_le m hm
  go_enter Try.func12, Try.ntmps12
  go_wp2
  go_loopw [0, 3] (fun n s wr => ∃ (q : Nat) (acc : List UInt8), q ≤ m ∧ n = .int .u64 q ∧ s = .string ⟨acc.toArray⟩ ∧ Hid (digL m = digL q ++ acc) ∧ Below w.heap.size w wr) (fun n _ _ => (intOf n).toNat)
  case atStart => exact ⟨m, [], by omega, rfl, rfl, (by simp : _ = _), Below.refl _ _⟩
  case round =>
    obtain ⟨q, acc, hq, rfl, rfl, hd, hb⟩ := hrel
    have hal : acc.length ≤ 21 := by
      rw [hd.out, List.length_append] at hle
      omega
    clear hle
    by_cases h9 : 9 < q
    · have h9z : (q : Int) > 9 := by omega
      obtain ⟨r, hr⟩ : ∃ r : Nat, r = q % 10 := ⟨_, rfl⟩
      obtain ⟨d, hd1⟩ : ∃ d : Nat, d = q / 10 := ⟨_, rfl⟩
      have hri2 : Int.tmod (q : Int) 10 = (r : Int) := by rw [Int.tmod_eq_emod_of_nonneg (by omega)]; omega
      have hdi2 : Int.tdiv (q : Int) 10 = (d : Int) := by rw [Int.tdiv_eq_ediv_of_nonneg (by omega)]; omega
      have hri : (q : Int) % 10 = (r : Int) := by omega
      have hdi : (q : Int) / 10 = (d : Int) := by omega
      obtain ⟨b, hbb⟩ : ∃ b, b = UInt8.ofNat (48 + r) := ⟨_, rfl⟩
      have hbt : (b.toNat : Int) = 48 + (r : Int) := by rw [hbb, UInt8.toNat_ofNat']; omega
      have hwr : IntKind.u8.wrap (48 + (r : Int)) = (b.toNat : Int) := by rw [IntKind.wrap_u8]; omega
      have hw1 : IntKind.u64.wrap (r : Int) = (r : Int) := by rw [IntKind.wrap_u64]; omega
      have hw2 : IntKind.u64.wrap (48 + (r : Int)) = 48 + (r : Int) := by rw [IntKind.wrap_u64]; omega
      have hw3 : IntKind.u64.wrap (d : Int) = (d : Int) := by rw [IntKind.wrap_u64]; omega
      have hstep : digL q = digL d ++ [b] := by rw [digL_big (by omega), ← hr, ← hd1, ← hbb]
      have HD : Hid (digL m = digL d ++ (b :: acc)) := by
        show _ = _
        rw [hd.out, hstep]; simp
      have hconv := conv1 wr.heap.size (wr.alloc (.cells #[.int .u8 (b.toNat : Int)] 5)) b ((blk_cell (heap_alloc_new wr _) 0).trans rfl)
      have hs := fun W => adds_run (P := Try.prog) W [b] acc (by have := hal; simp; omega)
      simp only [List.singleton_append] at hs
      have hba := hb.alloc hb.size (.cells #[.int .u8 (b.toNat : Int)] 5)
      have HR := Lib.hid hr
      have HD1 := Lib.hid hd1
      clear hbb hbt hstep hd hr hd1
      go_wp2
      go_roundw
      case rel =>
        have := HD1.out
        exact ⟨d, b :: acc, by omega, rfl, rfl, HD, hba⟩
      case measure => have := HD1.out; simp [intOf]; omega
    · have h9z : ¬ (q : Int) > 9 := by omega
      obtain ⟨b, hbb⟩ : ∃ b, b = UInt8.ofNat (48 + q) := ⟨_, rfl⟩
      have hbt : (b.toNat : Int) = 48 + (q : Int) := by rw [hbb, UInt8.toNat_ofNat']; omega
      have hwr : IntKind.u8.wrap (48 + (q : Int)) = (b.toNat : Int) := by rw [IntKind.wrap_u8]; omega
      have hw2 : IntKind.u64.wrap (48 + (q : Int)) = 48 + (q : Int) := by rw [IntKind.wrap_u64]; omega
      have HD : Hid (digL m = b :: acc) := by
        show _ = _
        rw [hd.out, digL_small (by omega), ← hbb]; rfl
      have hconv := conv1 wr.heap.size (wr.alloc (.cells #[.int .u8 (b.toNat : Int)] 5)) b ((blk_cell (heap_alloc_new wr _) 0).trans rfl)
      have hs := fun W => adds_run (P := Try.prog) W [b] acc (by have := hal; simp; omega)
      simp only [List.singleton_append] at hs
      have hba := hb.alloc hb.size (.cells #[.int .u8 (b.toNat : Int)] 5)
      clear hbb hbt hd
      go_wp2
      go_ret
      exact ⟨by rw [HD.out]; rfl, hba⟩
/-- The statement's text, with two numbers. -/
abbrev twoL (lo hi : Nat) : List UInt8 := [97, 123] ++ digL lo ++ [44] ++ digL hi ++ [125]
abbrev oneL (lo : Nat) : List UInt8 := [97, 123] ++ digL lo ++ [44] ++ [125]
theorem times_at_two (lo hi : Nat) (h1 : lo ≤ 4294967295) (h2 : hi ≤ 4294967295) : timesS (tx (twoL lo hi)) ⟨2, 0, 0⟩ = timesV 2 0 lo hi ∧ gb (tx (twoL lo hi)) 0 = 97 ∧ gb (tx (twoL lo hi)) 1 = 123 ∧ 2 ≤ (tx (twoL lo hi)).size ∧ (tx (twoL lo hi)).size ≤ 400 ∧ (tx (twoL lo hi)).size = 2 + (digL lo).length + 1 + (digL hi).length + 1 := by
  have h := at_all (twoL lo hi)
  have l1 := digL_le lo (by omega)
  have l2 := digL_le hi (by omega)
  have hsz : (tx (twoL lo hi)).size = 2 + (digL lo).length + 1 + (digL hi).length + 1 := by rw [tx_size]; simp; omega
  have a1 := h.left.left.left.right
  have a2 := h.left.left.right
  have a3 := h.left.right
  have a4 := h.right
  have a0 := h.left.left.left.left
  refine ⟨times_two ?_ ?_ ?_ ?_ ?_, a0.head, a0.tail.head, by omega, by omega, hsz⟩
  · simpa using a1
  · have := a2.head
    have e : 0 + ([97, 123] ++ digL lo).length = 2 + (digL lo).length := by simp <;> omega
    rw [e] at this
    exact this
  · have e : 0 + ([97, 123] ++ digL lo ++ [44]).length = 2 + (digL lo).length + 1 := by simp <;> omega
    rw [e] at a3
    exact a3
  · have := a4.head
    have e : 0 + ([97, 123] ++ digL lo ++ [44] ++ digL hi).length = 2 + (digL lo).length + 1 + (digL hi).length := by simp <;> omega
    rw [e] at this
    exact this
  · omega
theorem times_at_one (lo : Nat) (h1 : lo ≤ 4294967295) : timesS (tx (oneL lo)) ⟨2, 0, 0⟩ = timesO 2 0 lo ∧ gb (tx (oneL lo)) 0 = 97 ∧ gb (tx (oneL lo)) 1 = 123 ∧ 2 ≤ (tx (oneL lo)).size ∧ (tx (oneL lo)).size ≤ 400 ∧ (tx (oneL lo)).size = 2 + (digL lo).length + 2 := by
  have h := at_all (oneL lo)
  have l1 := digL_le lo (by omega)
  have hsz : (tx (oneL lo)).size = 2 + (digL lo).length + 2 := by rw [tx_size]; simp; omega
  have a1 := h.left.left.right
  have a2 := h.left.right
  have a4 := h.right
  have a0 := h.left.left.left
  refine ⟨times_open ?_ ?_ ?_ ?_, a0.head, a0.tail.head, by omega, by omega, hsz⟩
  · simpa using a1
  · have := a2.head
    have e : 0 + ([97, 123] ++ digL lo).length = 2 + (digL lo).length := by simp <;> omega
    rw [e] at this
    exact this
  · have := a4.head
    have e : 0 + ([97, 123] ++ digL lo ++ [44]).length = 2 + (digL lo).length + 1 := by simp <;> omega
    rw [e] at this
    exact this
  · omega
def aT (lo hi : Int) : T := timN (setN (fun q => decide ((q : Int) = 97))) lo hi
theorem three_ne : (3 : Int) ≠ 0 := by decide
theorem parse_two (lo hi : Nat) (h1 : lo ≤ 4294967295) (h2 : hi ≤ 4294967295) : parseS (tx (twoL lo hi)) =
    if lo > 2147483647 then ⟨zN, 2, 3⟩ else if hi > 2147483647 then ⟨zN, 3 + ((tx (digL lo)).size : Int), 3⟩ else if lo > hi then ⟨zN, 1, 2⟩ else ⟨aT lo hi, 0, 0⟩ := by
  obtain ⟨ht, g0, g1, s1, s2, s3⟩ := times_at_two lo hi h1 h2
  unfold timesV at ht
  rw [tx_size]
  by_cases c1 : lo > 2147483647
  · rw [if_pos c1] at ht ⊢
    rw [bound_err g0 g1 s1 s2 (by rw [ht]; exact three_ne), ht]
    rfl
  rw [if_neg c1] at ht ⊢
  by_cases c2 : hi > 2147483647
  · rw [if_pos c2] at ht ⊢
    rw [bound_err g0 g1 s1 s2 (by rw [ht]; exact three_ne), ht]
    congr 1
    show ((2 : Nat) : Int) + ((digL lo).length : Int) + 1 = 3 + ((digL lo).length : Int)
    omega
  rw [if_neg c2] at ht ⊢
  by_cases c3 : lo > hi
  · rw [if_pos c3] at ht ⊢
    rw [bound_err g0 g1 s1 s2 (by rw [ht]; exact two_ne), ht]
    rfl
  rw [if_neg c3] at ht ⊢
  rw [← s3] at ht
  exact bound_ok g0 g1 s1 s2 ht
theorem parse_one (lo : Nat) (h1 : lo ≤ 4294967295) : parseS (tx (oneL lo)) = if lo > 2147483647 then ⟨zN, 2, 3⟩ else ⟨aT lo (-1), 0, 0⟩ := by
  obtain ⟨ht, g0, g1, s1, s2, s3⟩ := times_at_one lo h1
  unfold timesO at ht
  by_cases c1 : lo > 2147483647
  · rw [if_pos c1] at ht ⊢
    rw [bound_err g0 g1 s1 s2 (by rw [ht]; exact three_ne), ht]
    rfl
  rw [if_neg c1] at ht ⊢
  rw [← s3] at ht
  exact bound_ok g0 g1 s1 s2 ht
end Go.Proofs.Ytmkcbbamfkafmaa.P
