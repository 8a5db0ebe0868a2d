/- The reference's Digits. -/
import Derived.Test.YtbdgfbkhplhpkaaDoorL12p
import Derived.Lib.ItoaNum
import Derived.Lib.ItoaLen
import Derived.Laws.Concat
namespace Go.Proofs.YtbdgfbkhplhpkaaDoor
open Go.RowKit
set_option linter.unusedVariables false
set_option linter.unusedSimpArgs false

theorem conv1 (k : Nat) (w : World) (b : UInt8) (h0 : w.cell? ⟨k, 0, none⟩ = some (.int .u8 (b.toNat : Int))) :
    (convert 36 9 (.slice (some ⟨k, 0, none⟩) 1 1)).run Tryd.prog w = .ok (.string ⟨#[b]⟩) w := by
  refine run_convert_bytes_back w _ _ _ ⟨k, 0, none⟩ 1 [b] Tryd.underlying36 Tryd.underlying5 Tryd.underlying9 fun j hj => ?_
  match j, hj with
  | 0, _ => exact h0
/-- Strings put together, under a name of its own. -/
def AddS (x y : ByteArray) : Sem Value := Op.stringOp .add x y
theorem addS (x y : ByteArray) : Op.stringOp .add x y = AddS x y := rfl
attribute [local go_sem ↓] addS
theorem adds_run {P : Program} (W : World) (l m : List UInt8) (h : l.length + m.length ≤ 1000000000) : (AddS ⟨l.toArray⟩ ⟨m.toArray⟩).run P W = .ok (.string ⟨(l ++ m).toArray⟩) W := by
  have h1 := run_string_add_sum (P := P) W ⟨l.toArray⟩ ⟨m.toArray⟩ (by show l.toArray.size + m.toArray.size ≤ _; simp; omega)
  have h2 : (⟨l.toArray⟩ : ByteArray) ++ ⟨m.toArray⟩ = ⟨(l ++ m).toArray⟩ := by
    apply ByteArray.ext
    simp
  rw [h2] at h1
  exact h1
theorem str_cons (b : UInt8) (acc : List UInt8) : (⟨#[b]⟩ : ByteArray) ++ ⟨acc.toArray⟩ = ⟨(b :: acc).toArray⟩ := by
  apply ByteArray.ext
  simp
set_option maxHeartbeats 1000000 in
theorem digits_any (m : Nat) (hm : m ≤ 4611686018427387904) (w : World) :
    Calls Tryd.prog 22 #[.int .i64 (m : Int)] w fun e w' => e = .returned (.string ⟨(Lib.decDigits m).toArray⟩) ∧ Below w.heap.size w w' := by
  go_enter Tryd.func22, Tryd.ntmps22
  go_wp2
  go_loopw [0, 3] (fun n s wr => ∃ (q : Nat) (acc : List UInt8), q ≤ m ∧ n = .int .i64 q ∧ s = .string ⟨acc.toArray⟩ ∧ Hid (Lib.decDigits m = Lib.decDigits q ++ acc) ∧ Below w.heap.size w wr) (fun n _ _ => (intOf n).toNat)
  case atStart => exact ⟨m, [], by omega, rfl, rfl, (by simp : _ = _), Below.refl _ _⟩
  case round =>
    obtain ⟨q, acc, hq, rfl, rfl, hd, hb⟩ := hrel
    by_cases h9 : 9 < q
    · have h9z : (q : Int) > 9 := by omega
      have hal : acc.length ≤ 21 := by
        have h1 := Lib.itoa_length_le (m : Int) (by omega) (by omega)
        rw [Lib.itoa_nonneg, hd.out, List.length_append] at h1
        omega
      obtain ⟨r, hr⟩ : ∃ r : Nat, r = q % 10 := ⟨_, rfl⟩
      obtain ⟨d, hd1⟩ : ∃ d : Nat, d = q / 10 := ⟨_, rfl⟩
      have hri : (q : Int) % 10 = (r : Int) := by omega
      have hdi : (q : Int) / 10 = (d : Int) := by omega
      have hri2 : Int.tmod (q : Int) 10 = (r : Int) := by rw [Int.tmod_eq_emod_of_nonneg (by omega)]; exact hri
      have hdi2 : Int.tdiv (q : Int) 10 = (d : Int) := by rw [Int.tdiv_eq_ediv_of_nonneg (by omega)]; exact hdi
      obtain ⟨b, hbb⟩ : ∃ b, b = UInt8.ofNat (48 + r) := ⟨_, rfl⟩
      have hbt : (b.toNat : Int) = 48 + (r : Int) := by rw [hbb, UInt8.toNat_ofNat']; omega
      have hwr : IntKind.u8.wrap (48 + (r : Int)) = (b.toNat : Int) := by rw [IntKind.wrap_u8]; omega
      have hstep : Lib.decDigits q = Lib.decDigits d ++ [b] := by rw [Lib.decDigits, dif_neg (by omega), ← hr, ← hd1, ← hbb]
      have HD : Hid (Lib.decDigits m = Lib.decDigits d ++ (b :: acc)) := by
        show _ = _
        rw [hd.out, hstep]; simp
      have hconv := conv1 wr.heap.size (wr.alloc (.cells #[.int .u8 (b.toNat : Int)] 5)) b ((blk_cell (heap_alloc_new wr _) 0).trans rfl)
      have hs := fun W => adds_run (P := Tryd.prog) W [b] acc (by have := hal; simp; omega)
      simp only [List.singleton_append] at hs
      have hba := hb.alloc hb.size (.cells #[.int .u8 (b.toNat : Int)] 5)
      have HR := Lib.hid hr
      have HD1 := Lib.hid hd1
      clear hbb hbt hstep hd hr hd1
      go_wp2
      go_roundw
      case rel =>
        have := HD1.out
        exact ⟨d, b :: acc, by omega, rfl, rfl, HD, hba⟩
      case measure => have := HD1.out; simp [intOf]; omega
    · have h9z : ¬ (q : Int) > 9 := by omega
      have hal : acc.length ≤ 21 := by
        have h1 := Lib.itoa_length_le (m : Int) (by omega) (by omega)
        rw [Lib.itoa_nonneg, hd.out, List.length_append] at h1
        omega
      obtain ⟨b, hbb⟩ : ∃ b, b = UInt8.ofNat (48 + q) := ⟨_, rfl⟩
      have hbt : (b.toNat : Int) = 48 + (q : Int) := by rw [hbb, UInt8.toNat_ofNat']; omega
      have hwr : IntKind.u8.wrap (48 + (q : Int)) = (b.toNat : Int) := by rw [IntKind.wrap_u8]; omega
      have HD : Hid (Lib.decDigits m = b :: acc) := by
        show _ = _
        rw [hd.out, Lib.decDigits, dif_pos (by omega), ← hbb]; rfl
      have hconv := conv1 wr.heap.size (wr.alloc (.cells #[.int .u8 (b.toNat : Int)] 5)) b ((blk_cell (heap_alloc_new wr _) 0).trans rfl)
      have hs := fun W => adds_run (P := Tryd.prog) W [b] acc (by have := hal; simp; omega)
      simp only [List.singleton_append] at hs
      have hba := hb.alloc hb.size (.cells #[.int .u8 (b.toNat : Int)] 5)
      clear hbb hbt hd
      go_wp2
      go_ret
      exact ⟨by rw [HD.out]; rfl, hba⟩
end Go.Proofs.YtbdgfbkhplhpkaaDoor
