/- Layer 3: a byte's text, a run's: the walks. -/
import Derived.Test.YtaohlmcgaggoeaaDoorMB
import Derived.Test.YtaohlmcgaggoeaaDoorMA
import Derived.Test.YtaohlmcgaggoeaaDoorMC
import Derived.Test.YtaohlmcgaggoeaaDoorMD
import Derived.Test.YtaohlmcgaggoeaaDoorShf
import Derived.Test.YtaohlmcgaggoeaaDoorPx8
import Derived.Test.YtaohlmcgaggoeaaDoorPx9
import Derived.WalkSmall
import Derived.Lib.AppendIntMem
import Derived.Lib.ItoaLen
import Derived.Deep.LoopGhost
import Derived.Test.YtaohlmcgaggoeaaDoorMF
import Derived.Test.YtaohlmcgaggoeaaDoorME
import Derived.Lib.QuietBelow
import Derived.Deep.RegionLaw
namespace Go.Proofs.YtaohlmcgaggoeaaDoor.P
open Go.RowKit Go.Proofs.YtaohlmcgaggoeaaDoor
set_option linter.unusedVariables false
set_option linter.unusedSimpArgs false
set_option maxRecDepth 100000
/-- A byte of a string, under a name of its own. -/
def IdxS (t : TypeId) (x i : Value) : Sem Value := Instr.index t x i
theorem idxS (t : TypeId) (x i : Value) : Instr.index t x i = IdxS t x i := rfl
attribute [local go_sem ↓] addS idxS
theorem idx_hex (q : Nat) (hq : q < 16) (W : World) : (IdxS 9 (.string ⟨#[48, 49, 50, 51, 52, 53, 54, 55, 56, 57, 97, 98, 99, 100, 101, 102]⟩) (.int .u8 (q : Int))).run Tryd.prog W = .ok (.int .u8 ((hexC q).toNat : Int)) W := by
  have h := run_index_string (P := Tryd.prog) (w := W) 9 ⟨#[48, 49, 50, 51, 52, 53, 54, 55, 56, 57, 97, 98, 99, 100, 101, 102]⟩ .u8 (q : Int) Tryd.underlying9
  have hs : (⟨#[48, 49, 50, 51, 52, 53, 54, 55, 56, 57, 97, 98, 99, 100, 101, 102]⟩ : ByteArray).size = 16 := rfl
  show (Instr.index _ _ _).run _ _ = _
  rw [h]
  rw [dif_pos ⟨by omega, by rw [hs]; omega⟩]
  match q, hq with
  | 0, _ => rfl
  | 1, _ => rfl
  | 2, _ => rfl
  | 3, _ => rfl
  | 4, _ => rfl
  | 5, _ => rfl
  | 6, _ => rfl
  | 7, _ => rfl
  | 8, _ => rfl
  | 9, _ => rfl
  | 10, _ => rfl
  | 11, _ => rfl
  | 12, _ => rfl
  | 13, _ => rfl
  | 14, _ => rfl
  | 15, _ => rfl
  | q + 16, hq => omega
theorem conv1 (k : Nat) (w : World) (b : UInt8) (h0 : w.cell? ⟨k, 0, none⟩ = some (.int .u8 (b.toNat : Int))) :
    (convert 55 9 (.slice (some ⟨k, 0, none⟩) 1 1)).run Tryd.prog w = .ok (.string ⟨#[b]⟩) w := by
  refine run_convert_bytes_back w _ _ _ ⟨k, 0, none⟩ 1 [b] Tryd.underlying55 Tryd.underlying5 Tryd.underlying9 fun j hj => ?_
  match j, hj with
  | 0, _ => exact h0
theorem conv2 (k : Nat) (w : World) (b d : UInt8) (h0 : w.cell? ⟨k, 0, none⟩ = some (.int .u8 (b.toNat : Int))) (h1 : w.cell? ⟨k, 1, none⟩ = some (.int .u8 (d.toNat : Int))) :
    (convert 55 9 (.slice (some ⟨k, 0, none⟩) 2 2)).run Tryd.prog w = .ok (.string ⟨#[b, d]⟩) w := by
  refine run_convert_bytes_back w _ _ _ ⟨k, 0, none⟩ 2 [b, d] Tryd.underlying55 Tryd.underlying5 Tryd.underlying9 fun j hj => ?_
  match j, hj with
  | 0, _ => exact h0
  | 1, _ => exact h1
set_option maxHeartbeats 1000000 in
theorem byte_u (u : UInt8) (w : World) : Calls Tryd.prog 16 #[.int .u8 (u.toNat : Int)] w fun e w' => e = .returned (.string (tx (byteX u.toNat))) ∧ Below w.heap.size w w' := by
  have hu : u.toNat < 256 := u.toNat_lt
  by_cases h10 : u.toNat = 10
  · rw [h10]
    go_enter Tryd.func16, Tryd.ntmps16
    go_wp2
    go_ret
    exact ⟨rfl, Below.refl _ _⟩
  by_cases h9 : u.toNat = 9
  · rw [h9]
    go_enter Tryd.func16, Tryd.ntmps16
    go_wp2
    go_ret
    exact ⟨rfl, Below.refl _ _⟩
  have hof : UInt8.ofNat u.toNat = u := by simp
  have hib := fun W => ib54 escS (u.toNat : Int) W
  have hesc := ix_esc (c := (u.toNat : Int)) (by omega) (by omega)
  obtain ⟨v, hv⟩ : ∃ v, v = ixB escS (u.toNat : Int) := ⟨_, rfl⟩
  rw [← hv] at hib hesc
  unfold escS at hib
  obtain ⟨n, hn⟩ : ∃ n, n = u.toNat := ⟨_, rfl⟩
  have hz10 : ¬ (n : Int) = 10 := by omega
  have hz9 : ¬ (n : Int) = 9 := by omega
  rw [← hn] at hib hesc hof hu ⊢
  have hcv := fun k W (h : W.cell? ⟨k, 0, none⟩ = some (.int .u8 (n : Int))) => conv1 k W u (by rw [← hn]; exact h)
  cases hE : escC (n : Int) with
  | true =>
    rw [hE] at hesc
    have hv0 : 0 ≤ v := by simpa using hesc
    have hX : Hid (byteX n = [92, u]) := Lib.hid (by unfold byteX; rw [if_neg (by omega), if_neg (by omega), if_pos hE, hof])
    have hcv1 := hcv w.heap.size (w.alloc (.cells #[.int .u8 (n : Int)] 5)) ((blk_cell (heap_alloc_new w _) 0).trans rfl)
    have hs : ∀ W, (AddS ⟨#[92]⟩ ⟨#[u]⟩).run Tryd.prog W = .ok (.string (tx [92, u])) W := fun W => adds_run W [92] [u] (by simp)
    clear hesc hE hv hn hof hcv h10 h9
    go_enter Tryd.func16, Tryd.ntmps16
    go_wp2_with fail
    refine (hib _).mono ?_
    rintro e w' ⟨rfl, rfl⟩
    go_wp2
    go_ret
    exact ⟨by rw [hX.out]; rfl, (Below.refl _ _).alloc (Nat.le_refl _) _⟩
  | false =>
    rw [hE] at hesc
    have hv0 : ¬ 0 ≤ v := by have : v < 0 := by simpa using hesc
                             omega
    by_cases hp : 32 < n ∧ n ≤ 126
    · have hX : Hid (byteX n = [u]) := Lib.hid (by unfold byteX; rw [if_neg (by omega), if_neg (by omega), if_neg (by rw [hE]; decide), if_pos hp, hof])
      have hcv1 := hcv w.heap.size (w.alloc (.cells #[.int .u8 (n : Int)] 5)) ((blk_cell (heap_alloc_new w _) 0).trans rfl)
      have hz1 : (32 : Int) < n := by omega
      have hz2 : (n : Int) ≤ 126 := by omega
      clear hesc hE hv hn hof hcv h10 h9 hp
      go_enter Tryd.func16, Tryd.ntmps16
      go_wp2_with fail
      refine (hib _).mono ?_
      rintro e w' ⟨rfl, rfl⟩
      go_wp2
      go_ret
      exact ⟨by rw [hX.out]; rfl, (Below.refl _ _).alloc (Nat.le_refl _) _⟩
    · have hX : Hid (byteX n = [92, 120, hexC (n / 16), hexC (n % 16)]) := Lib.hid (by unfold byteX; rw [if_neg (by omega), if_neg (by omega), if_neg (by rw [hE]; decide), if_neg hp])
      obtain ⟨d1, hd1⟩ : ∃ d1, d1 = hexC (n / 16) := ⟨_, rfl⟩
      obtain ⟨d2, hd2⟩ : ∃ d2, d2 = hexC (n % 16) := ⟨_, rfl⟩
      rw [← hd1, ← hd2] at hX
      have hq1 : ∀ W, (IdxS 9 (.string ⟨#[48, 49, 50, 51, 52, 53, 54, 55, 56, 57, 97, 98, 99, 100, 101, 102]⟩) (.int .u8 ((n : Int) / 16))).run Tryd.prog W = .ok (.int .u8 (d1.toNat : Int)) W := fun W => by
        have := idx_hex (n / 16) (by omega) W
        rwa [show ((n / 16 : Nat) : Int) = (n : Int) / 16 by omega, ← hd1] at this
      have hq2 : ∀ W, (IdxS 9 (.string ⟨#[48, 49, 50, 51, 52, 53, 54, 55, 56, 57, 97, 98, 99, 100, 101, 102]⟩) (.int .u8 ((n : Int) % 16))).run Tryd.prog W = .ok (.int .u8 (d2.toNat : Int)) W := fun W => by
        have := idx_hex (n % 16) (by omega) W
        rwa [show ((n % 16 : Nat) : Int) = (n : Int) % 16 by omega, ← hd2] at this
      have hcv := conv2 w.heap.size ((w.alloc (.cells #[.int .u8 (d1.toNat : Int), .int .u8 (d2.toNat : Int)] 5)).drew) d1 d2 (by go_simp) (by go_simp)
      have hs : ∀ W, (AddS ⟨#[92, 120]⟩ ⟨#[d1, d2]⟩).run Tryd.prog W = .ok (.string (tx [92, 120, d1, d2])) W := fun W => adds_run W [92, 120] [d1, d2] (by simp)
      have hpz : ¬ ((32 : Int) < n ∧ (n : Int) ≤ 126) := by omega
      clear hesc hE hv hn hof h10 h9 hp hd1 hd2
      go_enter Tryd.func16, Tryd.ntmps16
      go_wp2_with fail
      refine (hib _).mono ?_
      rintro e w' ⟨rfl, rfl⟩
      by_cases hz1 : (32 : Int) < n
      · have hz2 : ¬ (n : Int) ≤ 126 := fun h => hpz ⟨hz1, h⟩
        go_wp2
        go_region
        go_wp2
        go_ret
        exact ⟨by rw [hX.out]; rfl, ((Below.refl _ _).alloc (Nat.le_refl _) _).drew⟩
      · go_wp2
        go_region
        go_wp2
        go_ret
        exact ⟨by rw [hX.out]; rfl, ((Below.refl _ _).alloc (Nat.le_refl _) _).drew⟩
theorem byte_any (b : Nat) (hb : b < 256) (w : World) : Calls Tryd.prog 16 #[.int .u8 (b : Int)] w fun e w' => e = .returned (.string (tx (byteX b))) ∧ Below w.heap.size w w' := by
  have := byte_u (UInt8.ofNat b) w
  rwa [ofNat_val hb] at this
end Go.Proofs.YtaohlmcgaggoeaaDoor.P
/- Layer 3: a class's text: the walks. -/
namespace Go.Proofs.YtaohlmcgaggoeaaDoor.P
open Go.RowKit Go.Proofs.YtaohlmcgaggoeaaDoor
set_option linter.unusedVariables false
set_option linter.unusedSimpArgs false
set_option maxRecDepth 100000
attribute [local go_sem ↓] addS
theorem byteX_le (b : Nat) : (byteX b).length ≤ 4 := (byteX_len b).2
theorem runX_le (lo hi : Nat) : (runX lo hi).length ≤ 9 := by
  have h1 := byteX_le lo
  have h2 := byteX_le hi
  unfold runX
  split
  · omega
  split <;> simp only [List.length_append, List.length_cons, List.length_nil] <;> omega
set_option maxHeartbeats 1000000 in
theorem run_any (lo hi : Nat) (hl : lo ≤ hi) (hh : hi < 256) (w : World) : Calls Tryd.prog 67 #[.int .i64 (lo : Int), .int .i64 (hi : Int)] w fun e w' => e = .returned (.string (tx (runX lo hi))) ∧ Below w.heap.size w w' := by
  have b1 := byte_any lo (by omega)
  have b2 := byte_any hi hh
  have e1 : IntKind.u8.wrap (lo : Int) = (lo : Int) := by rw [IntKind.wrap_u8]; omega
  have e2 : IntKind.u8.wrap (hi : Int) = (hi : Int) := by rw [IntKind.wrap_u8]; omega
  have l1 := byteX_le lo
  have l2 := byteX_le hi
  have hX : runX lo hi = if hi = lo then byteX lo else if hi = lo + 1 then byteX lo ++ byteX hi else byteX lo ++ [45] ++ byteX hi := rfl
  obtain ⟨X, hX1⟩ : ∃ X, X = byteX lo := ⟨_, rfl⟩
  obtain ⟨Y, hY1⟩ : ∃ Y, Y = byteX hi := ⟨_, rfl⟩
  rw [← hX1] at b1 l1 hX
  rw [← hY1] at b2 l2 hX
  have s1 : ∀ W, (AddS (tx X) (tx Y)).run Tryd.prog W = .ok (.string (tx (X ++ Y))) W := fun W => adds_run W X Y (by omega)
  have s2 : ∀ W, (AddS (tx X) ⟨#[45]⟩).run Tryd.prog W = .ok (.string (tx (X ++ [45]))) W := fun W => adds_run W X [45] (by simp; omega)
  have s3 : ∀ W, (AddS (tx (X ++ [45])) (tx Y)).run Tryd.prog W = .ok (.string (tx (X ++ [45] ++ Y))) W := fun W => adds_run W (X ++ [45]) Y (by simp; omega)
  have HX := Lib.hid hX
  clear hX hX1 hY1 l1 l2
  by_cases h0 : hi = lo
  · have hz : (hi : Int) - (lo : Int) = 0 := by omega
    have HE : Hid (runX lo hi = X) := Lib.hid (by rw [HX.out, if_pos h0])
    clear h0
    go_enter Tryd.func67, Tryd.ntmps67
    go_wp2_with fail
    refine (b1 _).mono ?_
    rintro e w1 ⟨rfl, hb1⟩
    go_wp2
    go_ret
    exact ⟨by rw [HE.out]; rfl, hb1⟩
  by_cases h1 : hi = lo + 1
  · have hz : (hi : Int) - (lo : Int) = 1 := by omega
    have HE : Hid (runX lo hi = X ++ Y) := Lib.hid (by rw [HX.out, if_neg h0, if_pos h1])
    clear h0 h1
    go_enter Tryd.func67, Tryd.ntmps67
    go_wp2_with fail
    refine (b1 _).mono ?_
    rintro e w1 ⟨rfl, hb1⟩
    go_wp2_with fail
    refine (b2 _).mono ?_
    rintro e w2 ⟨rfl, hb2⟩
    go_wp2
    go_ret
    exact ⟨by rw [HE.out]; rfl, hb1.trans (hb2.mono hb1.size)⟩
  · have HE : Hid (runX lo hi = X ++ [45] ++ Y) := Lib.hid (by rw [HX.out, if_neg h0, if_neg h1])
    have hz0 : ¬ (hi : Int) - (lo : Int) = 0 := by omega
    have hz1 : ¬ (hi : Int) - (lo : Int) = 1 := by omega
    clear h0 h1
    go_enter Tryd.func67, Tryd.ntmps67
    go_wp2_with fail
    refine (b1 _).mono ?_
    rintro e w1 ⟨rfl, hb1⟩
    go_wp2_with fail
    refine (b2 _).mono ?_
    rintro e w2 ⟨rfl, hb2⟩
    go_wp2
    go_ret
    exact ⟨by rw [HE.out, List.append_assoc]; rfl, hb1.trans (hb2.mono hb1.size)⟩

/-! #### the runs -/
theorem runEnd_fuel (h : Nat → Bool) : ∀ n m k, k < 256 → 256 ≤ n + k → 256 ≤ m + k → runEnd h n k = runEnd h m k
  | 0, m, k, hk, h1, h2 => by omega
  | n + 1, 0, k, hk, h1, h2 => by omega
  | n + 1, m + 1, k, hk, h1, h2 => by
    rw [runEnd, runEnd]
    split
    · rename_i hc
      exact runEnd_fuel h n m (k + 1) hc.1 (by omega) (by omega)
    · rfl
theorem runsGo_fuel (h : Nat → Bool) : ∀ n m k, 256 ≤ n + k → 256 ≤ m + k → runsGo h n k = runsGo h m k
  | 0, 0, k, h1, h2 => rfl
  | 0, m + 1, k, h1, h2 => by rw [runsGo, runsGo, if_neg (by omega)]
  | n + 1, 0, k, h1, h2 => by rw [runsGo, runsGo, if_neg (by omega)]
  | n + 1, m + 1, k, h1, h2 => by
    rw [runsGo, runsGo]
    split
    · split
      · rename_i hk hh
        have := runEnd_spec h 256 k hk (by omega) hh
        rw [runsGo_fuel h n m (runEnd h 256 k + 1) (by omega) (by omega)]
      · exact runsGo_fuel h n m (k + 1) (by omega) (by omega)
    · rfl
theorem runs_yes {h : Nat → Bool} {k : Nat} (hk : k < 256) (hh : h k = true) : runsGo h 256 k = runX k (runEnd h 256 k) ++ runsGo h 256 (runEnd h 256 k + 1) := by
  have := runEnd_spec h 256 k hk (by omega) hh
  rw [show runsGo h 256 k = runsGo h (255 + 1) k from rfl, runsGo, if_pos hk, if_pos hh, runsGo_fuel h 255 256 _ (by omega) (by omega)]
theorem runs_no {h : Nat → Bool} {k : Nat} (hk : k < 256) (hh : h k = false) : runsGo h 256 k = runsGo h 256 (k + 1) := by
  rw [show runsGo h 256 k = runsGo h (255 + 1) k from rfl, runsGo, if_pos hk, if_neg (by rw [hh]; decide), runsGo_fuel h 255 256 _ (by omega) (by omega)]
theorem runs_end {h : Nat → Bool} {k : Nat} (hk : ¬ k < 256) : runsGo h 256 k = [] := by
  rw [show runsGo h 256 k = runsGo h (255 + 1) k from rfl, runsGo, if_neg hk]
theorem end_yes {h : Nat → Bool} {k : Nat} (hk : k + 1 < 256) (hh : h (k + 1) = true) : runEnd h 256 k = runEnd h 256 (k + 1) := by
  rw [show runEnd h 256 k = runEnd h (255 + 1) k from rfl, runEnd, if_pos ⟨hk, hh⟩, runEnd_fuel h 255 256 _ hk (by omega) (by omega)]
theorem end_no {h : Nat → Bool} {k : Nat} (hk : ¬ (k + 1 < 256 ∧ h (k + 1) = true)) : runEnd h 256 k = k := by
  rw [show runEnd h 256 k = runEnd h (255 + 1) k from rfl, runEnd, if_neg hk]
theorem runs_len (h : Nat → Bool) : ∀ n k, (runsGo h n k).length ≤ 9 * n
  | 0, k => by rw [runsGo]; simp
  | n + 1, k => by
    rw [runsGo]
    split
    · split
      · have h1 := runX_le k (runEnd h 256 k)
        have h2 := runs_len h n (runEnd h 256 k + 1)
        rw [List.length_append]; omega
      · have h2 := runs_len h n (k + 1)
        omega
    · simp
/-- A class in a variable. -/
theorem c4_cells {w : World} {g : Nat} {t : TypeId} {c0 c1 c2 c3 : Value} (h : w.heap[g]? = some (.cells #[c0, c1, c2, c3] t (0, 0))) :
    w.cell? ⟨g, 0, none⟩ = some c0 ∧ w.cell? ⟨g, 1, none⟩ = some c1 ∧ w.cell? ⟨g, 2, none⟩ = some c2 ∧ w.cell? ⟨g, 3, none⟩ = some c3 :=
  ⟨(blk_cell h 0).trans rfl, (blk_cell h 1).trans rfl, (blk_cell h 2).trans rfl, (blk_cell h 3).trans rfl⟩
section
variable (c0 c1 c2 c3 : Int) (hc : okC ⟨c0, c1, c2, c3⟩)
include hc
theorem has_c (b : Nat) (hb : b < 256) (w : World) : Calls Tryd.prog 66 #[.agg #[.int .u64 c0, .int .u64 c1, .int .u64 c2, .int .u64 c3], .int .u8 (b : Int)] w fun e w' => e = .returned (.bool (hasC ⟨c0, c1, c2, c3⟩ b)) ∧ Below w.heap.size w w' :=
  has_any _ hc (b : Int) (by omega) (by omega) w
set_option maxHeartbeats 4000000 in
theorem runs_any (w : World) : Calls Tryd.prog 52 #[.agg #[.int .u64 c0, .int .u64 c1, .int .u64 c2, .int .u64 c3]] w fun e w' => e = .returned (.string (tx (runsGo (hasC ⟨c0, c1, c2, c3⟩) 256 0))) ∧ Below w.heap.size w w' := by
  have hhas := fun b hb W => has_c c0 c1 c2 c3 hc b hb W
  obtain ⟨h, hh⟩ : ∃ h, h = hasC ⟨c0, c1, c2, c3⟩ := ⟨_, rfl⟩
  rw [← hh] at hhas ⊢
  have HHAS := Lib.hid hhas
  have hblk := heap_alloc_new w (.cells #[.int .u64 c0, .int .u64 c1, .int .u64 c2, .int .u64 c3] 24)
  have HBLK := Lib.hid hblk
  clear hc hhas hh hblk
  go_enter Tryd.func52, Tryd.ntmps52
  go_wp2_with fail
  go_loopg [3, 4] 257 (fun gg s3 s4 wr => ∃ (k : Nat) (acc : Tx), s4 = .int .i64 (k : Int) ∧ s3 = .string (tx acc) ∧ k ≤ 256 ∧ 257 - k ≤ gg ∧ acc.length ≤ 9 * k ∧ Hid (acc ++ runsGo h 256 k = runsGo h 256 0) ∧ Below (w.heap.size + 1) (w.alloc (.cells #[.int .u64 c0, .int .u64 c1, .int .u64 c2, .int .u64 c3] 24)) wr)
  case atStart => exact ⟨0, [], rfl, rfl, by omega, by omega, by simp, Lib.hid rfl, by have := Below.refl (w.alloc (.cells #[.int .u64 c0, .int .u64 c1, .int .u64 c2, .int .u64 c3] 24)).heap.size (w.alloc (.cells #[.int .u64 c0, .int .u64 c1, .int .u64 c2, .int .u64 c3] 24)); simpa using this⟩
  case round =>
    obtain ⟨k, acc, rfl, rfl, hk, hgg, hal, hacc, hbw⟩ := hrel
    have HGG := Lib.hid hgg
    have HBW := Lib.hid hbw
    have HAL := Lib.hid hal
    clear hgg hbw hal
    by_cases hlt : k < 256
    · have hlz : (k : Int) < 256 := by omega
      have e1 : IntKind.u8.wrap (k : Int) = (k : Int) := by rw [IntKind.wrap_u8]; omega
      obtain ⟨x0, x1, x2, x3⟩ := c4_cells ((HBW.out.block w.heap.size (by omega)).trans HBLK.out)
      have hcall := HHAS.out k hlt wr
      cases hhk : h k with
      | false =>
        rw [hhk] at hcall
        obtain ⟨m, hm⟩ : ∃ m : Nat, m = k + 1 := ⟨_, rfl⟩
        have hwr : IntKind.i64.wrap ((k : Int) + 1) = (m : Int) := by rw [IntKind.wrap_i64]; omega
        have HM := Lib.hid hm
        have HK := Lib.hid hhk
        clear hm hhk
        go_wp2_with fail
        refine hcall.mono ?_
        rintro e w2 ⟨rfl, hb2⟩
        clear hcall
        go_wp2
        go_roundg (257 - m)
        case measure => have := HM.out; have := HGG.out; omega
        case rel => exact ⟨m, acc, rfl, rfl, by have := HM.out; omega, Nat.le_refl _, by have := HM.out; have := HAL.out; omega, Lib.hid (by rw [HM.out, ← runs_no hlt HK.out]; exact hacc.out), HBW.out.trans (hb2.mono (by have := HBW.out.size; simp at this; omega))⟩
      | true =>
        rw [hhk] at hcall
        obtain ⟨e, he⟩ : ∃ e, e = runEnd h 256 k := ⟨_, rfl⟩
        obtain ⟨g1, g2, g3, g4⟩ := runEnd_spec h 256 k hlt (by omega) hhk
        rw [← he] at g1 g2
        have HE := Lib.hid he
        have HK := Lib.hid hhk
        have HR := Lib.hid (And.intro g1 g2)
        clear he hhk g1 g2 g3 g4
        go_wp2_with fail
        refine hcall.mono ?_
        rintro x w2 ⟨rfl, hb2⟩
        have HB2 := Lib.hid (HBW.out.trans (hb2.mono (by have := HBW.out.size; simp at this; omega)))
        clear hcall hb2 x0 x1 x2 x3
        go_wp2_with fail
        go_loopg [5] 257 (fun gg s5 wr => ∃ q : Nat, s5 = .int .i64 (q : Int) ∧ k ≤ q ∧ q < 256 ∧ 257 - q ≤ gg ∧ Hid (runEnd h 256 q = e) ∧ Below (w.heap.size + 1) (w.alloc (.cells #[.int .u64 c0, .int .u64 c1, .int .u64 c2, .int .u64 c3] 24)) wr)
        case atStart => exact ⟨k, rfl, Nat.le_refl _, hlt, by omega, Lib.hid HE.out.symm, HB2.out⟩
        case round =>
          obtain ⟨q, rfl, hkq, hq, hgq, hqe, hbq⟩ := hrel
          have HGQ := Lib.hid hgq
          have HBQ := Lib.hid hbq
          have HKQ := Lib.hid hkq
          clear hgq hbq hkq HB2
          obtain ⟨m, hm⟩ : ∃ m : Nat, m = q + 1 := ⟨_, rfl⟩
          have hwr : IntKind.i64.wrap ((q : Int) + 1) = (m : Int) := by rw [IntKind.wrap_i64]; omega
          -- the way on, once the run has ended
          have fin : (¬ (q + 1 < 256 ∧ h (q + 1) = true)) → q = e := fun hn => by rw [← hqe.out, end_no hn]
          obtain ⟨X, hX⟩ : ∃ X, X = runX k e := ⟨_, rfl⟩
          have hrun := run_any k e HR.out.1 HR.out.2
          rw [← hX] at hrun
          have hs : ∀ W, (AddS (tx acc) (tx X)).run Tryd.prog W = .ok (.string (tx (acc ++ X))) W := fun W => adds_run W acc X (by have := runX_le k e; rw [← hX] at this; have := HAL.out; omega)
          have HX := Lib.hid hX
          have HM := Lib.hid hm
          clear hX
          by_cases hq1 : q + 1 < 256
          · have hmz : (m : Int) < 256 := by omega
            have e2 : IntKind.u8.wrap (m : Int) = (m : Int) := by rw [IntKind.wrap_u8]; omega
            obtain ⟨x0, x1, x2, x3⟩ := c4_cells ((HBQ.out.block w.heap.size (by omega)).trans HBLK.out)
            have hcall := HHAS.out m (by omega) wr
            cases hhm : h m with
            | true =>
              rw [hhm] at hcall
              have HHM := Lib.hid hhm
              clear hm hhm fin hrun hs
              go_wp2_with fail
              refine hcall.mono ?_
              rintro x w4 ⟨rfl, hb4⟩
              clear hcall
              go_wp2
              go_roundg (257 - m)
              case measure => have := HM.out; have := HGQ.out; omega
              case rel => exact ⟨m, rfl, by have := HM.out; have := HKQ.out; omega, by have := HM.out; omega, Nat.le_refl _, Lib.hid (by rw [HM.out, ← end_yes hq1 (by rw [← HM.out]; exact HHM.out)]; exact hqe.out), HBQ.out.trans (hb4.mono (by have := HBQ.out.size; simp at this; omega))⟩
            | false =>
              rw [hhm] at hcall
              have hqe2 : q = e := fin (fun hn => by rw [← hm, hhm] at hn; cases hn.2)
              subst hqe2
              clear hm hhm fin
              go_wp2_with fail
              refine hcall.mono ?_
              rintro x w4 ⟨rfl, hb4⟩
              have HB4 := Lib.hid (HBQ.out.trans (hb4.mono (by have := HBQ.out.size; simp at this; omega)))
              clear hcall hb4 x0 x1 x2 x3
              go_wp2_with fail
              refine (hrun _).mono ?_
              rintro x w5 ⟨rfl, hb5⟩
              clear hrun
              go_wp2
              go_roundg (257 - m)
              case measure => have := HM.out; have := HGG.out; have := HKQ.out; omega
              case rel =>
                refine ⟨m, acc ++ X, rfl, rfl, by have := HM.out; omega, Nat.le_refl _, ?_, Lib.hid ?_, HB4.out.trans (hb5.mono (by have := HB4.out.size; simp at this; omega))⟩
                · rw [List.length_append, HX.out]; have := runX_le k q; have := HAL.out; have := HM.out; have := HKQ.out; omega
                · rw [List.append_assoc, HX.out, HM.out]
                  have := runs_yes hlt HK.out
                  rw [← HE.out] at this
                  rw [← this]
                  exact hacc.out
          · have hqe2 : q = e := fin (fun hn => hq1 hn.1)
            subst hqe2
            have hmz : ¬ (m : Int) < 256 := by omega
            clear hm fin
            go_wp2_with fail
            refine (hrun _).mono ?_
            rintro x w5 ⟨rfl, hb5⟩
            clear hrun
            go_wp2
            go_roundg (257 - m)
            case measure => have := HM.out; have := HGG.out; have := HKQ.out; omega
            case rel =>
              refine ⟨m, acc ++ X, rfl, rfl, by have := HM.out; omega, Nat.le_refl _, ?_, Lib.hid ?_, HBQ.out.trans (hb5.mono (by have := HBQ.out.size; simp at this; omega))⟩
              · rw [List.length_append, HX.out]; have := runX_le k q; have := HAL.out; have := HM.out; have := HKQ.out; omega
              · rw [List.append_assoc, HX.out, HM.out]
                have := runs_yes hlt HK.out
                rw [← HE.out] at this
                rw [← this]
                exact hacc.out
    · have hlz : ¬ (k : Int) < 256 := by omega
      have hfin : acc = runsGo h 256 0 := by
        have := hacc.out
        rw [runs_end hlt, List.append_nil] at this
        exact this
      have HF := Lib.hid hfin
      clear hfin
      go_wp2
      go_ret
      refine ⟨by rw [← HF.out]; rfl, ?_⟩
      have h1 : Below w.heap.size w (w.alloc (.cells #[.int .u64 c0, .int .u64 c1, .int .u64 c2, .int .u64 c3] 24)) := (Below.refl _ _).alloc (Nat.le_refl _) _
      exact h1.trans (HBW.out.mono (by omega))
end
end Go.Proofs.YtaohlmcgaggoeaaDoor.P
/- Layer 3: a class's text, whole; how often: the walks. -/
namespace Go.Proofs.YtaohlmcgaggoeaaDoor.P
open Go.RowKit Go.Proofs.YtaohlmcgaggoeaaDoor Go.Proofs.YtaohlmcgaggoeaaDoorW.PrintWords
set_option linter.unusedVariables false
set_option linter.unusedSimpArgs false
set_option maxRecDepth 100000
attribute [local go_sem ↓] addS
theorem cnt_cntH (h : Nat → Bool) : ∀ n, cnt h n = cntH h n
  | 0 => rfl
  | n + 1 => by rw [cnt, cntH, cnt_cntH h n]
section
variable (c0 c1 c2 c3 : Int) (hc : okC ⟨c0, c1, c2, c3⟩)
include hc
theorem size_c (w : World) : Calls Tryd.prog 50 #[.agg #[.int .u64 c0, .int .u64 c1, .int .u64 c2, .int .u64 c3]] w fun e w' => e = .returned (.int .i64 (cntH (hasC ⟨c0, c1, c2, c3⟩) 256 : Nat)) ∧ Below w.heap.size w w' := by
  have := size_any _ hc w
  unfold sizeC at this
  rw [cnt_cntH] at this
  exact this
theorem least_c (h1 : cntH (hasC ⟨c0, c1, c2, c3⟩) 256 = 1) (w : World) (hT : Tab w) : Calls Tryd.prog 51 #[.agg #[.int .u64 c0, .int .u64 c1, .int .u64 c2, .int .u64 c3]] w fun e w' => e = .returned (.tuple #[.int .u8 (leastH (hasC ⟨c0, c1, c2, c3⟩) 256 0 : Nat), .bool true]) ∧ Below w.heap.size w w' := by
  obtain ⟨o1, o2⟩ := only_one _ h1
  exact least_some _ hc (leastH (hasC ⟨c0, c1, c2, c3⟩) 256 0) o1 (by have := o2 _ o1; rw [decide_eq_true rfl] at this; exact this) (fun q hq => by have := o2 q (by omega); rw [decide_eq_false (by omega)] at this; exact this) w hT
set_option maxHeartbeats 2000000 in
theorem shset_any (w : World) (hT : Tab w) : Calls Tryd.prog 35 #[.agg #[.int .u64 c0, .int .u64 c1, .int .u64 c2, .int .u64 c3]] w fun e w' => e = .returned (.string (tx (setX (hasC ⟨c0, c1, c2, c3⟩)))) ∧ Below w.heap.size w w' := by
  have hsz := fun W => size_c c0 c1 c2 c3 hc W
  have hruns := fun W => runs_any c0 c1 c2 c3 hc W
  have hls := fun h1 W hT => least_c c0 c1 c2 c3 hc h1 W hT
  have hX : setX (hasC ⟨c0, c1, c2, c3⟩) = if cntH (hasC ⟨c0, c1, c2, c3⟩) 256 = 0 then noneX else if cntH (hasC ⟨c0, c1, c2, c3⟩) 256 = 1 then byteX (leastH (hasC ⟨c0, c1, c2, c3⟩) 256 0) else if cntH (hasC ⟨c0, c1, c2, c3⟩) 256 = 256 then [46] else [91] ++ runsGo (hasC ⟨c0, c1, c2, c3⟩) 256 0 ++ [93] := rfl
  have hl1 := only_one (hasC ⟨c0, c1, c2, c3⟩)
  have hrl := runs_len (hasC ⟨c0, c1, c2, c3⟩) 256 0
  obtain ⟨h, hh⟩ : ∃ h, h = hasC ⟨c0, c1, c2, c3⟩ := ⟨_, rfl⟩
  rw [← hh] at hsz hruns hX hls hl1 hrl ⊢
  obtain ⟨n, hn⟩ : ∃ n, n = cntH h 256 := ⟨_, rfl⟩
  rw [← hn] at hsz hX hls hl1
  have hblk := heap_alloc_new w (.cells #[.int .u64 c0, .int .u64 c1, .int .u64 c2, .int .u64 c3] 24)
  have hb1 : Below w.heap.size w (w.alloc (.cells #[.int .u64 c0, .int .u64 c1, .int .u64 c2, .int .u64 c3] 24)) := (Below.refl _ _).alloc (Nat.le_refl _) _
  have HBLK := Lib.hid hblk
  have HX := Lib.hid hX
  have HT := Lib.hid hT
  clear hc hh hblk hX hT hn
  obtain ⟨x0, x1, x2, x3⟩ := c4_cells HBLK.out
  by_cases h0 : n = 0
  · have HE : Hid (setX h = noneX) := Lib.hid (by rw [HX.out, if_pos h0])
    subst h0
    clear hruns hls hl1 hrl
    go_enter Tryd.func35, Tryd.ntmps35
    go_wp2_with fail
    refine (hsz _).mono ?_
    rintro e w1 ⟨rfl, hb2⟩
    go_wp2
    go_ret
    exact ⟨by rw [HE.out]; rfl, hb1.trans (hb2.mono hb1.size)⟩
  by_cases h1 : n = 1
  · have HE : Hid (setX h = byteX (leastH h 256 0)) := Lib.hid (by rw [HX.out, if_neg h0, if_pos h1])
    subst h1
    obtain ⟨o1, _⟩ := hl1 rfl
    have hby := byte_any (leastH h 256 0) o1
    have hls' := hls rfl
    obtain ⟨b, hb⟩ : ∃ b, b = leastH h 256 0 := ⟨_, rfl⟩
    rw [← hb] at hby hls' HE
    clear hruns hls hl1 hrl o1 hb h0
    go_enter Tryd.func35, Tryd.ntmps35
    go_wp2_with fail
    refine (hsz _).mono ?_
    rintro e w1 ⟨rfl, hb2⟩
    have hb3 := hb1.trans (hb2.mono hb1.size)
    have hT3 := hls' w1 (HT.out.below hb3)
    obtain ⟨y0, y1, y2, y3⟩ := c4_cells ((hb2.block w.heap.size (by simp)).trans HBLK.out)
    clear x0 x1 x2 x3 hls' hsz
    go_wp2_with fail
    refine hT3.mono ?_
    rintro e w2 ⟨rfl, hb4⟩
    go_wp2_with fail
    refine (hby _).mono ?_
    rintro e w3 ⟨rfl, hb5⟩
    go_wp2
    go_ret
    have hb6 := hb3.trans (hb4.mono hb3.size)
    exact ⟨by rw [HE.out]; rfl, hb6.trans (hb5.mono hb6.size)⟩
  by_cases h2 : n = 256
  · have HE : Hid (setX h = [46]) := Lib.hid (by rw [HX.out, if_neg h0, if_neg h1, if_pos h2])
    subst h2
    clear hruns hls hl1 hrl h0 h1
    go_enter Tryd.func35, Tryd.ntmps35
    go_wp2_with fail
    refine (hsz _).mono ?_
    rintro e w1 ⟨rfl, hb2⟩
    go_wp2
    go_ret
    exact ⟨by rw [HE.out]; rfl, hb1.trans (hb2.mono hb1.size)⟩
  · have HE : Hid (setX h = [91] ++ runsGo h 256 0 ++ [93]) := Lib.hid (by rw [HX.out, if_neg h0, if_neg h1, if_neg h2])
    obtain ⟨X, hX⟩ : ∃ X, X = runsGo h 256 0 := ⟨_, rfl⟩
    rw [← hX] at hruns HE hrl
    have s1 : ∀ W, (AddS ⟨#[91]⟩ (tx X)).run Tryd.prog W = .ok (.string (tx (91 :: X))) W := fun W => adds_run W [91] X (by simp; omega)
    have s2 : ∀ W, (AddS (tx (91 :: X)) ⟨#[93]⟩).run Tryd.prog W = .ok (.string (tx (91 :: X ++ [93]))) W := fun W => adds_run W (91 :: X) [93] (by simp; omega)
    have hz0 : ¬ (n : Int) = 0 := by omega
    have hz1 : ¬ (n : Int) = 1 := by omega
    have hz2 : ¬ (n : Int) = 256 := by omega
    clear hls hl1 hrl hX h0 h1 h2
    go_enter Tryd.func35, Tryd.ntmps35
    go_wp2_with fail
    refine (hsz _).mono ?_
    rintro e w1 ⟨rfl, hb2⟩
    have hb3 := hb1.trans (hb2.mono hb1.size)
    obtain ⟨y0, y1, y2, y3⟩ := c4_cells ((hb2.block w.heap.size (by simp)).trans HBLK.out)
    clear x0 x1 x2 x3 hsz
    go_wp2_with fail
    refine (hruns _).mono ?_
    rintro e w2 ⟨rfl, hb4⟩
    go_wp2
    go_ret
    exact ⟨by rw [HE.out]; rfl, hb3.trans (hb4.mono hb3.size)⟩
end
/-! #### numbers -/
theorem dec_dig (n : Nat) : Lib.decDigits n = digL n := by
  induction n using Nat.strongRecOn with
  | _ n ih =>
    by_cases h : n > 9
    · rw [Lib.decDigits, dif_neg (by omega), digL_big h, ih (n / 10) (by omega)]
    · rw [Lib.decDigits, dif_pos (by omega), digL_small h]
theorem tabG : Tryd.prog.globalNamed "internal/strconv.uint64pow10" = some 2 := by kernel_rfl
def Tabs (w : World) : Prop := Lib.TabIs Tryd.prog w "internal/strconv.uint64pow10" .u64 Lib.pow10Tab
theorem Tabs.lt {w : World} (h : Tabs w) : 2 < w.heap.size := by
  have := Lib.TabIs.cell h tabG 0 (by decide)
  exact World.block_lt_of_cell? w _ this
theorem Tabs.below {w w' : World} (h : Tabs w) (hb : Below w.heap.size w w') : Tabs w' := var?_below hb tabG h.lt h
theorem fmt_any (t : Int) (h0 : 0 ≤ t) (ht : t ≤ 9223372036854775807) (w : World) (h : Tabs w) : Calls Tryd.prog 56 #[.int .i64 t, .int .i64 10] w fun e w' => e = .returned (.string (tx (decX t))) ∧ Below w.heap.size w w' := by
  refine (Tryd.strconv_FormatInt_10 t (by omega) (by omega) w h).mono ?_
  rintro e w' ⟨he, k, os, hw⟩
  obtain ⟨n, rfl⟩ : ∃ n : Nat, t = n := ⟨t.toNat, by omega⟩
  rw [Lib.itoa_nonneg, dec_dig] at he
  refine ⟨he, ?_⟩
  rw [hw]
  exact Lib.below_grow _ w (Nat.le_refl _) k os
theorem decX_len {t : Int} (h0 : 0 ≤ t) (h1 : t ≤ 2147483647) : (decX t).length ≤ 10 := by
  unfold decX
  exact digL_len_le (d := 9) (by omega)
theorem timesX_len {lo hi : Int} (h0 : 0 ≤ lo) (h1 : lo ≤ 2147483647) (h2 : hi = -1 ∨ lo ≤ hi ∧ hi ≤ 2147483647) : (timesX lo hi).length ≤ 23 := by
  have a := decX_len h0 h1
  unfold timesX
  split
  · simp
  split
  · simp
  split
  · simp
  split
  · simp; omega
  split
  · simp; omega
  · have b := decX_len (t := hi) (by omega) (by omega)
    simp; omega
set_option maxHeartbeats 2000000 in
theorem shtimes_any (lo hi : Int) (h0 : 0 ≤ lo) (h1 : lo ≤ 2147483647) (h2 : hi = -1 ∨ lo ≤ hi ∧ hi ≤ 2147483647) (w : World) (hT : Tabs w) : Calls Tryd.prog 37 #[.int .i64 lo, .int .i64 hi] w fun e w' => e = .returned (.string (tx (timesX lo hi))) ∧ Below w.heap.size w w' := by
  have hf := fmt_any lo h0 (by omega) w hT
  have hl := decX_len h0 h1
  have hX : timesX lo hi = if lo = 0 ∧ hi = -1 then [42] else if lo = 1 ∧ hi = -1 then [43] else if lo = 0 ∧ hi = 1 then [63] else if hi = -1 then [123] ++ decX lo ++ [44, 125] else if lo = hi then [123] ++ decX lo ++ [125] else [123] ++ decX lo ++ [44] ++ decX hi ++ [125] := rfl
  obtain ⟨X, hX1⟩ : ∃ X, X = decX lo := ⟨_, rfl⟩
  rw [← hX1] at hf hl hX
  have HX := Lib.hid hX
  have s1 : ∀ W, (AddS ⟨#[123]⟩ (tx X)).run Tryd.prog W = .ok (.string (tx (123 :: X))) W := fun W => adds_run W [123] X (by simp; omega)
  clear hX hX1
  by_cases c1 : lo = 0 ∧ hi = -1
  · have HE : Hid (timesX lo hi = [42]) := Lib.hid (by rw [HX.out, if_pos c1])
    obtain ⟨rfl, rfl⟩ := c1
    clear h2
    go_enter Tryd.func37, Tryd.ntmps37
    go_wp2_with fail
    refine hf.mono ?_
    rintro e w1 ⟨rfl, hb1⟩
    go_wp2
    go_ret
    exact ⟨by rw [HE.out]; rfl, hb1⟩
  by_cases c2 : lo = 1 ∧ hi = -1
  · have HE : Hid (timesX lo hi = [43]) := Lib.hid (by rw [HX.out, if_neg c1, if_pos c2])
    obtain ⟨rfl, rfl⟩ := c2
    clear h2 c1
    go_enter Tryd.func37, Tryd.ntmps37
    go_wp2_with fail
    refine hf.mono ?_
    rintro e w1 ⟨rfl, hb1⟩
    go_wp2
    go_ret
    exact ⟨by rw [HE.out]; rfl, hb1⟩
  by_cases c3 : lo = 0 ∧ hi = 1
  · have HE : Hid (timesX lo hi = [63]) := Lib.hid (by rw [HX.out, if_neg c1, if_neg c2, if_pos c3])
    obtain ⟨rfl, rfl⟩ := c3
    clear h2 c1 c2
    go_enter Tryd.func37, Tryd.ntmps37
    go_wp2_with fail
    refine hf.mono ?_
    rintro e w1 ⟨rfl, hb1⟩
    go_wp2
    go_ret
    exact ⟨by rw [HE.out]; rfl, hb1⟩
  by_cases c4 : hi = -1
  · have HE : Hid (timesX lo hi = 123 :: X ++ [44, 125]) := Lib.hid (by rw [HX.out, if_neg c1, if_neg c2, if_neg c3, if_pos c4]; rfl)
    have s2 : ∀ W, (AddS (tx (123 :: X)) ⟨#[44, 125]⟩).run Tryd.prog W = .ok (.string (tx (123 :: X ++ [44, 125]))) W := fun W => adds_run W (123 :: X) [44, 125] (by simp; omega)
    subst c4
    have z0 : ¬ lo = 0 := fun e => c1 ⟨e, rfl⟩
    have z1 : ¬ lo = 1 := fun e => c2 ⟨e, rfl⟩
    clear h2 c1 c2 c3 hl
    go_enter Tryd.func37, Tryd.ntmps37
    go_wp2_with fail
    refine hf.mono ?_
    rintro e w1 ⟨rfl, hb1⟩
    go_wp2
    go_ret
    exact ⟨by rw [HE.out]; rfl, hb1⟩
  have h2' : lo ≤ hi ∧ hi ≤ 2147483647 := by omega
  by_cases c5 : lo = hi
  · have HE : Hid (timesX lo hi = 123 :: X ++ [125]) := Lib.hid (by rw [HX.out, if_neg c1, if_neg c2, if_neg c3, if_neg c4, if_pos c5]; rfl)
    have s2 : ∀ W, (AddS (tx (123 :: X)) ⟨#[125]⟩).run Tryd.prog W = .ok (.string (tx (123 :: X ++ [125]))) W := fun W => adds_run W (123 :: X) [125] (by simp; omega)
    subst c5
    have z1 : ¬ lo = -1 := by omega
    have z2 : ¬ (lo = 0 ∧ lo = 1) := by omega
    clear h2 h2' c1 c2 c3 c4 hl
    go_enter Tryd.func37, Tryd.ntmps37
    go_wp2_with fail
    refine hf.mono ?_
    rintro e w1 ⟨rfl, hb1⟩
    by_cases z0 : lo = 0
    · subst z0
      go_wp2
      go_ret
      exact ⟨by rw [HE.out]; rfl, hb1⟩
    · by_cases z3 : lo = 1
      · subst z3
        go_wp2
        go_ret
        exact ⟨by rw [HE.out]; rfl, hb1⟩
      · go_wp2
        go_ret
        exact ⟨by rw [HE.out]; rfl, hb1⟩
  · have hf2 := fun W (h : Tabs W) => fmt_any hi (by omega) (by omega) W h
    have hl2 := decX_len (t := hi) (by omega) (by omega)
    obtain ⟨Y, hY1⟩ : ∃ Y, Y = decX hi := ⟨_, rfl⟩
    rw [← hY1] at hf2 hl2
    have HE : Hid (timesX lo hi = 123 :: X ++ [44] ++ Y ++ [125]) := Lib.hid (by rw [HX.out, if_neg c1, if_neg c2, if_neg c3, if_neg c4, if_neg c5, hY1]; rfl)
    obtain ⟨U, hU⟩ : ∃ U, U = 123 :: X ++ [44] := ⟨_, rfl⟩
    obtain ⟨V, hV⟩ : ∃ V, V = U ++ Y := ⟨_, rfl⟩
    obtain ⟨Z, hZ⟩ : ∃ Z, Z = V ++ [125] := ⟨_, rfl⟩
    have hUl : U.length ≤ 20 := by rw [hU]; simp; omega
    have hVl : V.length ≤ 40 := by rw [hV]; simp; omega
    have s2 : ∀ W, (AddS (tx (123 :: X)) ⟨#[44]⟩).run Tryd.prog W = .ok (.string (tx U)) W := fun W => by rw [hU]; exact adds_run W (123 :: X) [44] (by simp; omega)
    have s3 : ∀ W, (AddS (tx U) (tx Y)).run Tryd.prog W = .ok (.string (tx V)) W := fun W => by rw [hV]; exact adds_run W U Y (by omega)
    have s4 : ∀ W, (AddS (tx V) ⟨#[125]⟩).run Tryd.prog W = .ok (.string (tx Z)) W := fun W => by rw [hZ]; exact adds_run W V [125] (by simp; omega)
    have HE2 : Hid (timesX lo hi = Z) := Lib.hid (by rw [HE.out, hZ, hV, hU])
    have HT := Lib.hid hT
    have hc4 := c4
    have hc5 := c5
    have HC := Lib.hid (show ¬ (lo = 0 ∧ hi = 1) from c3)
    clear h2 h2' c1 c2 c3 c4 c5 hl hl2 hU hV hZ hUl hVl hY1 HE
    go_enter Tryd.func37, Tryd.ntmps37
    go_wp2_with fail
    refine hf.mono ?_
    rintro e w1 ⟨rfl, hb1⟩
    have hfh := hf2 w1 (HT.out.below hb1)
    clear hf hf2
    by_cases z0 : lo = 0
    · have z3 : ¬ hi = 1 := fun e => HC.out ⟨z0, e⟩
      subst z0
      go_wp2_with fail
      refine hfh.mono ?_
      rintro e w2 ⟨rfl, hb2⟩
      go_wp2
      go_ret
      exact ⟨by rw [HE2.out]; rfl, hb1.trans (hb2.mono hb1.size)⟩
    · by_cases z3 : lo = 1
      · subst z3
        go_wp2_with fail
        refine hfh.mono ?_
        rintro e w2 ⟨rfl, hb2⟩
        go_wp2
        go_ret
        exact ⟨by rw [HE2.out]; rfl, hb1.trans (hb2.mono hb1.size)⟩
      · go_wp2_with fail
        refine hfh.mono ?_
        rintro e w2 ⟨rfl, hb2⟩
        go_wp2
        go_ret
        exact ⟨by rw [HE2.out]; rfl, hb1.trans (hb2.mono hb1.size)⟩
end Go.Proofs.YtaohlmcgaggoeaaDoor.P
/- Layer 3: a tree's text: the walks. -/
namespace Go.Proofs.YtaohlmcgaggoeaaDoor.P
open Go.RowKit Go.Proofs.YtaohlmcgaggoeaaDoor Go.Proofs.YtaohlmcgaggoeaaDoorW.PrintWords
set_option linter.unusedVariables false
set_option linter.unusedSimpArgs false
set_option maxRecDepth 100000
attribute [local go_sem ↓] addS appS
def strs (l : List Tx) : List Value := l.map fun x => Value.string (tx x)
theorem strs_length (l : List Tx) : (strs l).length = l.length := by simp [strs]
theorem join_eq (sep : Tx) : ∀ xs : List Tx, Lib.join xs sep = joinX sep xs
  | [] => rfl
  | [x] => Lib.join_one x sep
  | x :: y :: r => by
    have h := join_eq sep (y :: r)
    rw [Lib.join_cons] at h ⊢
    rw [joinX, ← h]
    simp [Lib.joinTail]
theorem joinX_len (sep : Tx) : ∀ xs : List Tx, (joinX sep xs).length ≤ (xs.map fun x => x.length + sep.length).sum
  | [] => by simp [joinX]
  | [x] => by simp [joinX]
  | x :: y :: r => by
    have h := joinX_len sep (y :: r)
    rw [joinX]
    simp only [List.length_append, List.map_cons, List.sum_cons] at h ⊢
    omega
/-- strings.Join of a row of one's own. -/
theorem join_any (sep : Tx) (xs : List Tx) (v : Value) (base : Nat) (w : World) (h : Ow w base 9 v (strs xs)) (hN : xs.length ≤ 1000000) (hlen : (joinX sep xs).length ≤ 1000000000) :
    Calls Tryd.prog 36 #[v, .string (tx sep)] w fun e w' => e = .returned (.string (tx (joinX sep xs))) ∧ Below w.heap.size w w' := by
  cases xs with
  | nil =>
    obtain ⟨A, c, rfl, _, _⟩ := h.sl
    refine (Tryd.strings_Join_none A c (tx sep) w).mono ?_
    rintro e w' ⟨rfl, rfl⟩
    exact ⟨rfl, Below.refl _ _⟩
  | cons x xs =>
    rcases h.2 with ⟨_, h0⟩ | ⟨g, cap, cur, hv, hb, hg, hn, hm, hsz, ht⟩
    · simp [strs] at h0
    · have hcl := World.ownsRow.cells h (g := g) (by rw [hv]; rfl)
      have hlt : g < w.heap.size := blk_lt hg
      have hmap : ((x :: xs).map fun y => tx y).map (·.data.toList) = x :: xs := by
        rw [List.map_map]
        conv => rhs; rw [← List.map_id (x :: xs)]
        apply List.map_congr_left
        intro y _
        simp
      have hJ := Tryd.strings_Join g 0 cap ((x :: xs).map fun y => tx y) (tx sep) w (fun j y hy => by
        have hq : (strs (x :: xs))[j]? = some (.string y) := by
          rw [List.getElem?_map] at hy
          unfold strs
          rw [List.getElem?_map]
          cases hh : (x :: xs)[j]? with
          | none => rw [hh] at hy; cases hy
          | some z => rw [hh] at hy; simp at hy ⊢; rw [hy]
        have := hcl j _ hq
        rwa [Addr.add_lit] at this) hlt (by rw [List.length_map]; omega) (by rw [List.length_map]; rw [strs_length] at hn; exact hn) (by
        rw [hmap]
        show (Lib.join (x :: xs) sep).length ≤ _
        rw [join_eq]
        omega)
      rw [hmap, List.length_map] at hJ
      rw [strs_length] at hv
      rw [hv]
      have he : Lib.join (x :: xs) (tx sep).data.toList = joinX sep (x :: xs) := by rw [← join_eq]
      rw [he] at hJ
      exact hJ
/-! #### how long a text is -/
theorem setX_len (h : Nat → Bool) : (setX h).length ≤ 2306 := by
  have h1 := runs_len h 256 0
  have h2 := byteX_le (leastH h 256 0)
  unfold setX
  split
  · simp [noneX]
  split
  · omega
  split
  · simp
  · simp; omega
theorem parX_len (k pk : Int) (x : Tx) : (parX k pk x).length ≤ x.length + 2 := by
  unfold parX
  split <;> simp <;> omega
theorem cntT_pos (x : T) : 1 ≤ cntT x := by rw [cntT_eq]; omega
theorem show_len (n : Nat) : ∀ x : T, SizeOf.sizeOf x < n → formedT x = true → (showT x).length + 3 ≤ 2500 * cntT x := by
  induction n with
  | zero => intro x h; omega
  | succ n ih =>
    intro x hn hf
    obtain ⟨hk, _, h4, _, _, _, hp⟩ := kindF hf
    have key : ∀ l : List T, (∀ p ∈ l, p ∈ x.f2) → ((showL x.f0 l).map fun y => y.length + 1).sum ≤ 2500 * cntL l := by
      intro l
      induction l with
      | nil => intro _; rw [showL, cntL]; simp
      | cons p l ihl =>
        intro hm
        have h1 := ih p (by have := mem_lt (hm p (by simp)); omega) (hp p (hm p (by simp)))
        have h2 := ihl fun q hq => hm q (List.mem_cons_of_mem _ hq)
        have h3 := parX_len x.f0 p.f0 (showT p)
        rw [showL, cntL]
        simp only [List.map_cons, List.sum_cons]
        omega
    have hall := key x.f2 fun p h => h
    have hj : ∀ sep : Tx, sep.length ≤ 1 → (joinX sep (showL x.f0 x.f2)).length ≤ 2500 * cntL x.f2 := fun sep hs => by
      have h1 := joinX_len sep (showL x.f0 x.f2)
      have h2 : ((showL x.f0 x.f2).map fun y => y.length + sep.length).sum ≤ ((showL x.f0 x.f2).map fun y => y.length + 1).sum := by
        generalize showL x.f0 x.f2 = l
        induction l with
        | nil => simp
        | cons y l ihl => simp only [List.map_cons, List.sum_cons]; omega
      omega
    rw [cntT_eq]
    obtain ⟨k, c, ps, lo, hi⟩ := x
    dsimp only at hk h4 hall hj ⊢
    rw [showT]
    unfold nodeX
    split
    · have := setX_len (hasC c); omega
    split
    · have := hj [124] (by simp); omega
    split
    · rename_i k4
      obtain ⟨e1, e2, e3, e4⟩ := h4 k4
      match ps, e1 with
      | [p], _ =>
        have h1 := timesX_len e2 e3 e4
        rw [showL, showL] at hall ⊢
        simp at hall ⊢
        omega
    · have := hj [] (by simp); omega
theorem showT_len {x : T} (hf : formedT x = true) : (showT x).length + 3 ≤ 2500 * cntT x := show_len _ x (Nat.lt_succ_self _) hf
theorem infoStr : (Tryd.prog.info? 9).map (fun i => (i.zero, i.size, i.bytes)) = some (some (.string ByteArray.empty), 1, 16) := by kernel_rfl
/-- The node in its box, and the texts of the parts so far. -/
structure TxI (w W : World) (x : T) (A : Option Addr) (c : Nat) (v : Value) (l : List Tx) : Prop where
  blk : W.heap[w.heap.size]? = some (.cells #[.int .i64 x.f0, .int .u64 x.f1.f0, .int .u64 x.f1.f1, .int .u64 x.f1.f2, .int .u64 x.f1.f3, .slice A x.f2.length c, .int .i64 x.f3, .int .i64 x.f4] 27)
  ow : Ow W (w.heap.size + 1) 9 v (strs l)
  bel : Below w.heap.size w W
  tr0 : Tr w x A c
  tab0 : Tab w
  tabs0 : Tabs w
namespace TxI
variable {w W W' : World} {x : T} {A : Option Addr} {c : Nat} {v : Value} {l : List Tx}
theorem size (h : TxI w W x A c v l) : w.heap.size < W.heap.size := blk_lt h.blk
theorem tr (h : TxI w W x A c v l) : Tr W x A c := h.tr0.below h.bel
theorem tab (h : TxI w W x A c v l) : Tab W := h.tab0.below h.bel
theorem tabs (h : TxI w W x A c v l) : Tabs W := h.tabs0.below h.bel
theorem below (h : TxI w W x A c v l) (hb : Below W.heap.size W W') : TxI w W' x A c v l :=
  ⟨(hb.block _ h.size).trans h.blk, own_move h.ow fun i hi => hb.block i (h.ow.lt i hi).2, h.bel.trans (hb.mono (Nat.le_of_lt h.size)), h.tr0, h.tab0, h.tabs0⟩
theorem start (hT : Tr w x A c) (h1 : Tab w) (h2 : Tabs w) : TxI w (w.alloc (.cells #[.int .i64 x.f0, .int .u64 x.f1.f0, .int .u64 x.f1.f1, .int .u64 x.f1.f2, .int .u64 x.f1.f3, .slice A x.f2.length c, .int .i64 x.f3, .int .i64 x.f4] 27)) x A c (.slice none 0 0) [] := by
  have hb : Below w.heap.size w (w.alloc (.cells #[.int .i64 x.f0, .int .u64 x.f1.f0, .int .u64 x.f1.f1, .int .u64 x.f1.f2, .int .u64 x.f1.f3, .slice A x.f2.length c, .int .i64 x.f3, .int .i64 x.f4] 27)) := (Below.refl _ _).alloc (Nat.le_refl _) _
  exact ⟨heap_alloc_new w _, Ow.nil _ _ _, hb, hT, h1, h2⟩
/-- A text put behind the others. -/
theorem app (h : TxI w W x A c v l) (z : Tx) (hl : l.length ≤ 1000000) :
    ∃ v' w', (AppS #[58, 58] 58 #[v, .slice (some ⟨W.heap.size, 0, none⟩) 1 1]).run Tryd.prog (W.alloc (.cells #[.string (tx z)] 9)) = .ok v' w' ∧ Hid (TxI w w' x A c v' (l ++ [z])) := by
  obtain ⟨i0, hi, hz0, hz1, hz2⟩ := info_parts infoStr
  have hrow : W.ownsRow (w.heap.size + 1) 9 1 v l.length (strs l) := by have := h.ow; unfold Ow at this; rwa [strs_length] at this
  obtain ⟨g, cc, w', hr, h2, h3⟩ := app_row (P := Tryd.prog) W 58 9 _ 1 16 Tryd.underlying58 hi hz0 hz1 hz2 rfl (by omega) v l.length (strs l) hrow h.size [.string (tx z)] rfl (by simp [Value.oneCell']) (by omega) (by omega)
  have hlo := fun k e => (h.ow.lt k e).1
  have same : ∀ k, k ≤ w.heap.size → w'.heap[k]? = W.heap[k]? := fun k hk => h3.block k (Nat.lt_of_le_of_lt hk h.size) fun e => by have := hlo k e.symm; omega
  have hb : Below w.heap.size w w' := h.bel.grown h3 (Nat.le_of_lt h.size) fun k e => by have := hlo k e; omega
  have hst : strs (l ++ [z]) = strs l ++ [.string (tx z)] := by simp [strs]
  refine ⟨_, w', hr, Lib.hid ⟨(same _ (Nat.le_refl _)).trans h.blk, ?_, hb, h.tr0, h.tab0, h.tabs0⟩⟩
  unfold Ow
  rw [hst, List.length_append, strs_length]
  exact h2
end TxI
def TextC (x : T) (n : Nat) : Prop := SizeOf.sizeOf x < n → formedT x = true → okW x → cntT x ≤ 100000 → ∀ (A : Option Addr) (c : Nat) (w : World), Tr w x A c → Tab w → Tabs w →
  Calls Tryd.prog 19 #[ndV x A c] w fun e w' => e = .returned (.string (tx (showT x))) ∧ Below w.heap.size w w'
set_option maxHeartbeats 1000000 in
/-- A part's text. -/
theorem within_any (x : T) (k : Int) (A : Option Addr) (c : Nat) (w : World) (hl : (showT x).length ≤ 900000000)
    (h : ∀ W, Below w.heap.size w W → Calls Tryd.prog 19 #[ndV x A c] W fun e w' => e = .returned (.string (tx (showT x))) ∧ Below W.heap.size W w') :
    Calls Tryd.prog 34 #[ndV x A c, .int .i64 k] w fun e w' => e = .returned (.string (tx (parX k x.f0 (showT x)))) ∧ Below w.heap.size w w' := by
  have hb1 : Below w.heap.size w (w.alloc (.cells #[.int .i64 x.f0, .int .u64 x.f1.f0, .int .u64 x.f1.f1, .int .u64 x.f1.f2, .int .u64 x.f1.f3, .slice A x.f2.length c, .int .i64 x.f3, .int .i64 x.f4] 27)) := (Below.refl _ _).alloc (Nat.le_refl _) _
  have hcall := h _ hb1
  have hblk := heap_alloc_new w (.cells #[.int .i64 x.f0, .int .u64 x.f1.f0, .int .u64 x.f1.f1, .int .u64 x.f1.f2, .int .u64 x.f1.f3, .slice A x.f2.length c, .int .i64 x.f3, .int .i64 x.f4] 27)
  obtain ⟨n0, n1, n2, n3, n4, n5, n6, n7⟩ := n_cells hblk
  have hX : parX k x.f0 (showT x) = if x.f0 = 3 ∨ (k ≠ 3 ∧ (x.f0 = 2 ∨ x.f0 = 0)) then [40] ++ showT x ++ [41] else showT x := rfl
  obtain ⟨X, hX1⟩ : ∃ X, X = showT x := ⟨_, rfl⟩
  rw [← hX1] at hcall hX hl ⊢
  have HX := Lib.hid hX
  have HB := Lib.hid hblk
  have s1 : ∀ W, (AddS ⟨#[40]⟩ (tx X)).run Tryd.prog W = .ok (.string (tx (40 :: X))) W := fun W => adds_run W [40] X (by simp; omega)
  have s2 : ∀ W, (AddS (tx (40 :: X)) ⟨#[41]⟩).run Tryd.prog W = .ok (.string (tx (40 :: X ++ [41]))) W := fun W => adds_run W (40 :: X) [41] (by simp; omega)
  unfold ndV at hcall ⊢
  clear h hblk hX hX1 hl
  obtain ⟨⟨xk, ⟨x0, x1, x2, x3⟩, xps, xlo, xhi⟩, hx⟩ : ∃ y, y = x := ⟨_, rfl⟩
  subst hx
  dsimp only at hcall n0 n1 n2 n3 n4 n5 n6 n7 HX HB hb1 ⊢
  go_enter Tryd.func34, Tryd.ntmps34
  go_wp2_with fail
  refine hcall.mono ?_
  rintro e w2 ⟨rfl, hb2⟩
  have hb3 := hb1.trans (hb2.mono hb1.size)
  obtain ⟨m0, m1, m2, m3, m4, m5, m6, m7⟩ := n_cells ((hb2.block w.heap.size (by simp)).trans HB.out)
  clear n0 n1 n2 n3 n4 n5 n6 n7 hcall
  by_cases k3 : xk = 3
  · have HE : Hid (parX k xk X = 40 :: X ++ [41]) := Lib.hid (by rw [HX.out, if_pos (.inl k3)]; rfl)
    subst k3
    go_wp2
    go_ret
    exact ⟨by rw [HE.out]; rfl, hb3⟩
  by_cases kk : k = 3
  · have HE : Hid (parX k xk X = X) := Lib.hid (by rw [HX.out, if_neg (by rintro (h | h); exact k3 h; exact h.1 kk)])
    subst kk
    go_wp2
    go_ret
    exact ⟨by rw [HE.out]; rfl, hb3⟩
  by_cases k2 : xk = 2
  · have HE : Hid (parX k xk X = 40 :: X ++ [41]) := Lib.hid (by rw [HX.out, if_pos (.inr ⟨kk, .inl k2⟩)]; rfl)
    subst k2
    clear k3
    go_wp2
    go_ret
    exact ⟨by rw [HE.out]; rfl, hb3⟩
  by_cases k0 : xk = 0
  · have HE : Hid (parX k xk X = 40 :: X ++ [41]) := Lib.hid (by rw [HX.out, if_pos (.inr ⟨kk, .inr k0⟩)]; rfl)
    subst k0
    clear k3 k2
    go_wp2
    go_ret
    exact ⟨by rw [HE.out]; rfl, hb3⟩
  · have HE : Hid (parX k xk X = X) := Lib.hid (by rw [HX.out, if_neg (by rintro (h | h); exact k3 h; rcases h.2 with h | h; exact k2 h; exact k0 h)])
    have z3 : (xk == 3) = false := by simp [k3]
    have z2 : (xk == 2) = false := by simp [k2]
    have z0 : (xk == 0) = false := by simp [k0]
    have zk : (k != 3) = true := by simp [kk]
    clear k3 kk k2 k0
    go_wp2
    go_ret
    exact ⟨by rw [HE.out]; rfl, hb3⟩
end Go.Proofs.YtaohlmcgaggoeaaDoor.P
/- Layer 3: a tree's text, whole: the walk. -/
namespace Go.Proofs.YtaohlmcgaggoeaaDoor.P
open Go.RowKit Go.Proofs.YtaohlmcgaggoeaaDoor Go.Proofs.YtaohlmcgaggoeaaDoorW.PrintWords
set_option linter.unusedVariables false
set_option linter.unusedSimpArgs false
set_option maxRecDepth 100000
attribute [local go_sem ↓] addS appS
theorem take_next {l : List Tx} {k : Nat} {z : Tx} (h : l[k]? = some z) : l.take k ++ [z] = l.take (k + 1) := by rw [List.take_add_one, h]; rfl
set_option maxHeartbeats 4000000 in
theorem text_n (n : Nat) : ∀ x, TextC x n := by
  induction n with
  | zero => intro x hn; omega
  | succ n ih =>
    intro x hn hf hw hcn A c w hT ht1 ht2
    obtain ⟨hk, h23, h4, h01, hlh, hem, hp⟩ := kindF hf
    have hlen := showT_len hf
    have hpc : ∀ (i : Nat) (hi : i < x.f2.length) (A' : Option Addr) (c' : Nat) (W : World), Tr W x.f2[i] A' c' → Tab W → Tabs W →
        Calls Tryd.prog 34 #[ndV x.f2[i] A' c', .int .i64 x.f0] W fun e w' => e = .returned (.string (tx (parX x.f0 x.f2[i].f0 (showT x.f2[i])))) ∧ Below W.heap.size W w' := fun i hi A' c' W hT' t1 t2 => by
      have hm := List.getElem_mem hi
      have hcm := cntL_mem hm
      have hcx := cntT_eq x
      have hfp := hp _ hm
      have hl := showT_len hfp
      refine within_any _ _ A' c' W (by omega) fun W' hb => ih _ ?_ hfp (hw.part _ hm) (by omega) A' c' W' (hT'.below hb) (t1.below hb) (t2.below hb)
      have := mem_lt hm
      omega
    have hcls := hw.cls
    obtain ⟨L, hL⟩ : ∃ L, L = showL x.f0 x.f2 := ⟨_, rfl⟩
    have hLl : L.length = x.f2.length := by rw [hL, showL_map, List.length_map]
    have hLi : ∀ (i : Nat) (hi : i < x.f2.length), L[i]? = some (parX x.f0 x.f2[i].f0 (showT x.f2[i])) := fun i hi => by rw [hL, showL_map, List.getElem?_map, List.getElem?_eq_getElem hi]; rfl
    have hX : showT x = nodeX x.f0 x.f1 L x.f3 x.f4 := by rw [hL]; cases x; rw [showT]
    have hjl : ∀ sep : Tx, sep.length ≤ 1 → x.f0 ≠ 1 → x.f0 ≠ 4 → True := fun _ _ _ _ => trivial
    have hcL : cntL x.f2 ≤ 100000 := by have := cntT_eq x; omega
    have hnl : x.f2.length ≤ 100000 := by
      have key : ∀ l : List T, l.length ≤ cntL l := fun l => by
        induction l with
        | nil => simp
        | cons p l ih => rw [cntL, List.length_cons]; have := cntT_pos p; omega
      have := key x.f2
      omega
    have HI0 := Lib.hid (TxI.start hT ht1 ht2)
    have HPC := Lib.hid hpc
    have HLI := Lib.hid hLi
    have HX := Lib.hid hX
    have HLL := Lib.hid hLl
    have HCLS := Lib.hid hcls
    have HLEN := Lib.hid (show (showT x).length ≤ 250000000 by omega)
    have H4 := Lib.hid h4
    have HNL := Lib.hid hnl
    clear ih hpc hLi hL hX hjl hLl hcls hf hw hcn h23 h01 hlh hem hp hlen h4 hcL hnl hT ht1 ht2
    unfold ndV
    go_enter Tryd.func19, Tryd.ntmps19
    obtain ⟨n0, n1, n2, n3, n4, n5, n6, n7⟩ := n_cells HI0.out.blk
    go_wp2_with fail
    clear n0 n1 n2 n3 n4 n5 n6 n7
    go_loopg [3, 9] x.f2.length (fun gg s3 s9 wr => ∃ k : Nat, s9 = .int .i64 (k : Int) ∧ k ≤ x.f2.length ∧ x.f2.length - k ≤ gg ∧ TxI w wr x A c s3 (L.take k))
    case atStart => exact ⟨0, rfl, Nat.zero_le _, Nat.le_refl _, HI0.out⟩
    case round =>
      obtain ⟨k, rfl, hkl, hgg, hI⟩ := hrel
      have HI := Lib.hid hI
      have HG := Lib.hid hgg
      obtain ⟨n0, n1, n2, n3, n4, n5, n6, n7⟩ := n_cells hI.blk
      by_cases hlt : k < x.f2.length
      · have hlz : (k : Int) < (x.f2.length : Int) := by omega
        obtain ⟨ad, A', c', hA, hT', m0, m1, m2, m3, m4, m5, m6, m7⟩ := hI.tr.child k hlt
        obtain ⟨Z, hZ⟩ : ∃ Z, Z = parX x.f0 x.f2[k].f0 (showT x.f2[k]) := ⟨_, rfl⟩
        have hLk := HLI.out k hlt
        rw [← hZ] at hLk
        have hbx : Below wr.heap.size wr (wr.alloc (.cells #[.int .i64 x.f2[k].f0, .int .u64 x.f2[k].f1.f0, .int .u64 x.f2[k].f1.f1, .int .u64 x.f2[k].f1.f2, .int .u64 x.f2[k].f1.f3, .slice A' x.f2[k].f2.length c', .int .i64 x.f2[k].f3, .int .i64 x.f2[k].f4] 27)) := (Below.refl _ _).alloc (Nat.le_refl _) _
        have hIb := hI.below hbx
        have hcall := HPC.out k hlt A' c' _ (hT'.below hbx) hIb.tab hIb.tabs
        rw [← hZ] at hcall
        unfold ndV at hcall
        obtain ⟨⟨pk, ⟨p0, p1, p2, p3⟩, pps, plo, phi⟩, hp⟩ : ∃ p, p = x.f2[k] := ⟨_, rfl⟩
        rw [← hp] at hcall hIb m0 m1 m2 m3 m4 m5 m6 m7
        dsimp only at hcall hIb m0 m1 m2 m3 m4 m5 m6 m7
        obtain ⟨b0, b1, b2, b3, b4, b5, b6, b7⟩ := n_cells hIb.blk
        obtain ⟨m, hm⟩ : ∃ m : Nat, m = k + 1 := ⟨_, rfl⟩
        have hwr : IntKind.i64.wrap ((k : Int) + 1) = (m : Int) := by have := HNL.out; rw [IntKind.wrap_i64]; omega
        have HIb := Lib.hid hIb
        have HM := Lib.hid hm
        have HLK := Lib.hid hLk
        have hlt1 : (L.take k).length ≤ 1000000 := by rw [List.length_take]; have := HNL.out; have := HLL.out; omega
        subst hA
        clear hI hT' hZ hbx hIb hp hm hLk hgg
        go_wp2_with fail
        refine hcall.mono ?_
        rintro e w2 ⟨rfl, hb2⟩
        have hI2 := HIb.out.below hb2
        obtain ⟨v', w', happ, hI3⟩ := hI2.app Z hlt1
        clear hcall n0 n1 n2 n3 n4 n5 n6 n7 b0 b1 b2 b3 b4 b5 b6 b7 m0 m1 m2 m3 m4 m5 m6 m7 hI2 hb2 hlt1
        go_wp2_with fail
        go_roundg (x.f2.length - m)
        case measure => have := HM.out; have := HG.out; omega
        case rel => exact ⟨m, rfl, by have := HM.out; omega, Nat.le_refl _, by rw [HM.out, ← take_next HLK.out]; exact hI3.out⟩
      · have hlz : ¬ (k : Int) < (x.f2.length : Int) := by omega
        have htk : L.take k = L := by rw [List.take_of_length_le]; rw [HLL.out]; omega
        rw [htk] at HI
        have hbel := HI.out.bel
        have HBEL := Lib.hid hbel
        clear hI hbel htk hgg hkl
        rcases hk with hk0 | hk0 | hk0 | hk0 | hk0
        · have hXe : showT x = joinX [] L := by rw [HX.out, hk0]; rfl
          have hJ := join_any [] L _ _ wr HI.out.ow (by rw [HLL.out]; have := HNL.out; omega) (by rw [← hXe]; have := HLEN.out; omega)
          have HXE := Lib.hid hXe
          rw [hk0] at n0
          clear hXe hk0
          go_wp2_with fail
          refine hJ.mono ?_
          rintro e w2 ⟨rfl, hb2⟩
          go_wp2
          go_ret
          exact ⟨by rw [HXE.out]; rfl, HBEL.out.trans (hb2.mono HBEL.out.size)⟩
        · have hXe : showT x = setX (hasC x.f1) := by rw [HX.out, hk0]; rfl
          have hS := shset_any x.f1.f0 x.f1.f1 x.f1.f2 x.f1.f3 HCLS.out wr HI.out.tab
          have HXE := Lib.hid hXe
          rw [hk0] at n0
          clear hXe hk0
          go_wp2_with fail
          refine hS.mono ?_
          rintro e w2 ⟨rfl, hb2⟩
          go_wp2
          go_ret
          exact ⟨by rw [HXE.out]; rfl, HBEL.out.trans (hb2.mono HBEL.out.size)⟩
        · have hXe : showT x = joinX [] L := by rw [HX.out, hk0]; rfl
          have hJ := join_any [] L _ _ wr HI.out.ow (by rw [HLL.out]; have := HNL.out; omega) (by rw [← hXe]; have := HLEN.out; omega)
          have HXE := Lib.hid hXe
          rw [hk0] at n0
          clear hXe hk0
          go_wp2_with fail
          refine hJ.mono ?_
          rintro e w2 ⟨rfl, hb2⟩
          go_wp2
          go_ret
          exact ⟨by rw [HXE.out]; rfl, HBEL.out.trans (hb2.mono HBEL.out.size)⟩
        · have hXe : showT x = joinX [124] L := by rw [HX.out, hk0]; rfl
          have hJ := join_any [124] L _ _ wr HI.out.ow (by rw [HLL.out]; have := HNL.out; omega) (by rw [← hXe]; have := HLEN.out; omega)
          have HXE := Lib.hid hXe
          rw [hk0] at n0
          clear hXe hk0
          go_wp2_with fail
          refine hJ.mono ?_
          rintro e w2 ⟨rfl, hb2⟩
          go_wp2
          go_ret
          exact ⟨by rw [HXE.out]; rfl, HBEL.out.trans (hb2.mono HBEL.out.size)⟩
        · obtain ⟨e1, e2, e3, e4⟩ := H4.out hk0
          have hXe : showT x = L.headD [] ++ timesX x.f3 x.f4 := by rw [HX.out, hk0]; rfl
          have hLn : L.length = 1 := by rw [HLL.out, e1]
          obtain ⟨Z, hZ⟩ : ∃ Z, L = [Z] := by
            match L, hLn with
            | [Z], _ => exact ⟨Z, rfl⟩
          rw [hZ] at hXe
          have hZe : showT x = Z ++ timesX x.f3 x.f4 := hXe
          have how := HI.out.ow
          rw [hZ] at how
          obtain ⟨g, d, hv, hc0, hd1⟩ : ∃ g d, u3 = .slice (some ⟨g, 0, none⟩) 1 d ∧ wr.cell? ⟨g, 0, none⟩ = some (.string (tx Z)) ∧ 1 ≤ d := by
            rcases how.2 with ⟨_, h0⟩ | ⟨g, cap, cur, hv, hb, hg, hn, hm, hsz, ht⟩
            · cases h0
            · have := World.ownsRow.cells how (g := g) (by rw [hv]; rfl) 0 (.string (tx Z)) rfl
              rw [Addr.add_lit] at this
              exact ⟨g, cap, hv, this, hn⟩
          subst hv
          have q1 := fun d9 os => Calls.regrown_of (shtimes_any x.f3 x.f4 e2 e3 e4 (Go.Sort.grow (redrawn wr d9) os) (HI.out.tabs.below (below_regrown wr d9 os)))
          obtain ⟨Y, hY⟩ : ∃ Y, Y = timesX x.f3 x.f4 := ⟨_, rfl⟩
          rw [← hY] at q1 hZe
          have hZl : Z.length + Y.length ≤ 250000000 := by have := HLEN.out; rw [hZe, List.length_append] at this; exact this
          have hs : ∀ W, (AddS (tx Z) (tx Y)).run Tryd.prog W = .ok (.string (tx (Z ++ Y))) W := fun W => adds_run W Z Y (by omega)
          have kc := cell_regrown hc0
          have k0 := cell_regrown n0
          have k6 := cell_regrown n6
          have k7 := cell_regrown n7
          have HZE := Lib.hid hZe
          rw [hk0] at n0
          clear hXe hZe hk0 how hY hLn hZl e1 e2 e3 e4 hZ
          go_wp2_with fail
          refine wp_region_quiet_below (by kernel_rfl) (by kernel_rfl) ?_
          repeat (quiet_step (fail))
          quiet_step (exact q1 _ _)
          repeat (quiet_step (fail))
          refine wpQuiet_nil ?_
          intro _ hw'
          obtain ⟨⟨dq, osq⟩, hw''⟩ := hw'
          subst hw''
          go_wp2
          go_ret
          exact ⟨by rw [HZE.out]; rfl, HBEL.out.trans ((below_regrown wr dq osq).mono HBEL.out.size)⟩
/-- The text of a tree that is formed. -/
theorem text_any (x : T) (hf : formedT x = true) (hw : okW x) (hc : cntT x ≤ 100000) (A : Option Addr) (c : Nat) (w : World) (hT : Tr w x A c) (h1 : Tab w) (h2 : Tabs w) :
    Calls Tryd.prog 19 #[ndV x A c] w fun e w' => e = .returned (.string (tx (showT x))) ∧ Below w.heap.size w w' := text_n _ x (Nat.lt_succ_self _) hf hw hc A c w hT h1 h2
end Go.Proofs.YtaohlmcgaggoeaaDoor.P
/- Layer 3, the document's: a byte's text, a number's, a class's: the walks. -/
namespace Go.Proofs.YtaohlmcgaggoeaaDoor.P
open Go.RowKit Go.Proofs.YtaohlmcgaggoeaaDoor Go.Proofs.YtaohlmcgaggoeaaDoorW.PrintWords Go.Proofs.YtaohlmcgaggoeaaDoorW.PrintLast Go.Proofs.YtaohlmcgaggoeaaDoorW.PrintMore
set_option linter.unusedVariables false
set_option linter.unusedSimpArgs false
set_option maxRecDepth 100000
attribute [local go_sem ↓] addS
theorem refbyte_f : ∀ k : Fin 256, ostinatoref03_Byte.f 20 (k.1 : Int) = some (tx (byteX k.1)) := by decide +kernel
theorem refbyte_any (b : Nat) (hb : b < 256) (w : World) : Calls Tryd.prog 17 #[.int .i64 (b : Int)] w fun e w' => e = .returned (.string (tx (byteX b))) ∧ Below w.heap.size w w' :=
  ostinatoref03_Byte.calls 20 (b : Int) _ w (refbyte_f ⟨b, hb⟩)
theorem str_one (c : Nat) (hc : c < 256) : strOfNums [((c : Int)) % 256] = tx [UInt8.ofNat c] := by
  unfold strOfNums
  have : ((c : Int) % 256).toNat = c := by omega
  simp [this]
theorem refdig_f : ∀ (n q : Nat) (acc : Tx), q < n → q ≤ 2147483647 → acc.length + n ≤ 4611686018427387904 → ostinatoref03_Digits.l0 n (q : Int) (tx acc) = some (tx (digL q ++ acc))
  | 0, q, acc, h, _, _ => by omega
  | n + 1, q, acc, h, hq, ha => by
    by_cases h9 : q > 9
    · have e1 : Int.tmod (q : Int) 10 = ((q % 10 : Nat) : Int) := by rw [Int.tmod_eq_emod_of_nonneg (by omega)]; omega
      have e2 : Int.tdiv (q : Int) 10 = ((q / 10 : Nat) : Int) := by rw [Int.tdiv_eq_ediv_of_nonneg (by omega)]; omega
      have e3 : wrap64 (48 + ((q % 10 : Nat) : Int)) = ((48 + q % 10 : Nat) : Int) := by rw [wrapI (by omega) (by omega)]; omega
      have e4 : wrap64 (((q / 10 : Nat)) : Int) = ((q / 10 : Nat) : Int) := wrapI (by omega) (by omega)
      have e5 := str_one (48 + q % 10) (by omega)
      have e6 : tx [UInt8.ofNat (48 + q % 10)] ++ tx acc = tx (UInt8.ofNat (48 + q % 10) :: acc) := by apply ByteArray.ext; simp
      have hs : (tx [UInt8.ofNat (48 + q % 10)]).size + (tx acc).size ≤ 9223372036854775807 := by rw [tx_size, tx_size]; simp; omega
      rw [ostinatoref03_Digits.l0, if_pos (by omega), Option.bind_some, e1, e3, e5, if_pos hs, e2, e4, e6]
      rw [refdig_f n (q / 10) (UInt8.ofNat (48 + q % 10) :: acc) (by omega) (by omega) (by rw [List.length_cons]; omega), digL_big h9]
      simp
    · have e3 : wrap64 (48 + (q : Int)) = ((48 + q : Nat) : Int) := by rw [wrapI (by omega) (by omega)]; omega
      have e5 := str_one (48 + q) (by omega)
      have e6 : tx [UInt8.ofNat (48 + q)] ++ tx acc = tx (UInt8.ofNat (48 + q) :: acc) := by apply ByteArray.ext; simp
      have hs : (tx [UInt8.ofNat (48 + q)]).size + (tx acc).size ≤ 9223372036854775807 := by rw [tx_size, tx_size]; simp; omega
      rw [ostinatoref03_Digits.l0, if_neg (by omega), Option.bind_some, e3, e5, if_pos hs, e6, digL_small h9]
      rfl
theorem refdig_any (t : Int) (h0 : 0 ≤ t) (h1 : t ≤ 2147483647) (w : World) : Calls Tryd.prog 21 #[.int .i64 t] w fun e w' => e = .returned (.string (tx (decX t))) ∧ Below w.heap.size w w' := by
  obtain ⟨q, rfl⟩ : ∃ q : Nat, t = q := ⟨t.toNat, by omega⟩
  have := refdig_f (q + 1) q [] (by omega) (by omega) (by rw [List.length_nil]; omega)
  rw [List.append_nil] at this
  exact ostinatoref03_Digits.calls (q + 1) (q : Int) _ w this
end Go.Proofs.YtaohlmcgaggoeaaDoor.P
