/- Layer 3, the document's: a class's text: the walk. Written by wip/gen_shz.py. -/
import Derived.Test.YtaohlmcgaggoeaaDoorMG
import Derived.Deep.DeepCutAuto
import Derived.Test.YtaohlmcgaggoeaaDoorMF
import Derived.Test.YtaohlmcgaggoeaaDoorMA
import Derived.Lib.QuietBelow
namespace Go.Proofs.YtaohlmcgaggoeaaDoor.P
open Go.RowKit Go.Proofs.YtaohlmcgaggoeaaDoor Go.Proofs.YtaohlmcgaggoeaaDoorW.PrintWords Go.Proofs.YtaohlmcgaggoeaaDoorW.PrintLast Go.Proofs.YtaohlmcgaggoeaaDoorW.PrintMore
set_option linter.unusedVariables false
set_option linter.unusedSimpArgs false
set_option maxRecDepth 100000
attribute [local go_sem ↓] addS
/-- The last byte of those that are. -/
def lastH (h : Nat → Bool) : Nat → Nat
  | 0 => 0
  | n + 1 => if h n = true then n else lastH h n
theorem lastH_spec (h : Nat → Bool) : ∀ n, 1 ≤ cntH h n → h (lastH h n) = true ∧ lastH h n < n
  | 0, h0 => by rw [cntH] at h0; omega
  | n + 1, h0 => by
    rw [cntH] at h0
    rw [lastH]
    by_cases hx : h n = true
    · rw [if_pos hx]; exact ⟨hx, by omega⟩
    · rw [if_neg hx]
      rw [if_neg hx] at h0
      have := lastH_spec h n h0
      exact ⟨this.1, by omega⟩
theorem last_least (h : Nat → Bool) (h1 : cntH h 256 = 1) : lastH h 256 = leastH h 256 0 := by
  obtain ⟨a, b⟩ := lastH_spec h 256 (by omega)
  have := (only_one h h1).2 _ b
  rw [a] at this
  exact of_decide_eq_true this.symm
/-- What the document writes from byte 256 - n on. -/
def refR (h : Nat → Bool) : Nat → Tx
  | 0 => []
  | n + 1 => (if h (255 - n) = true ∧ ¬ (0 < 255 - n ∧ h (255 - n - 1) = true) then runX (255 - n) (runEnd h 256 (255 - n)) else []) ++ refR h n
theorem refR_step (h : Nat → Bool) {k : Nat} (hk : k < 256) : refR h (256 - k) = (if h k = true ∧ ¬ (0 < k ∧ h (k - 1) = true) then runX k (runEnd h 256 k) else []) ++ refR h (256 - (k + 1)) := by
  rw [show 256 - k = (255 - k) + 1 by omega, refR, show 255 - (255 - k) = k by omega, show 256 - (k + 1) = 255 - k by omega]
theorem refR_in (h : Nat → Bool) (e : Nat) (he : e < 256) : ∀ d j, e + 1 - j = d → 0 < j → j ≤ e + 1 → (∀ i, j ≤ i + 1 → i ≤ e → h i = true) → refR h (256 - j) = refR h (256 - (e + 1))
  | 0, j, hd, h0, h1, hh => by rw [show j = e + 1 by omega]
  | d + 1, j, hd, h0, h1, hh => by
    rw [refR_step h (by omega), if_neg (fun hn => hn.2 ⟨h0, hh (j - 1) (by omega) (by omega)⟩), List.nil_append]
    exact refR_in h e he d (j + 1) (by omega) (by omega) (by omega) fun i h2 h3 => hh i (by omega) h3
theorem refR_runs (h : Nat → Bool) : ∀ n k, 256 - k ≤ n → k ≤ 256 → (k = 0 ∨ h (k - 1) = false) → refR h (256 - k) = runsGo h 256 k
  | 0, k, hn, hk, hb => by
    rw [show k = 256 by omega, runs_end (by omega)]
    rfl
  | n + 1, k, hn, hk, hb => by
    by_cases hlt : k < 256
    · cases hh : h k with
      | false =>
        rw [refR_step h hlt, if_neg (by rw [hh]; rintro ⟨a, _⟩; cases a), List.nil_append, runs_no hlt hh]
        exact refR_runs h n (k + 1) (by omega) (by omega) (.inr (by simpa using hh))
      | true =>
        obtain ⟨g1, g2, g3, g4⟩ := runEnd_spec h 256 k hlt (by omega) hh
        rw [refR_step h hlt, if_pos ⟨hh, by rintro ⟨a, b⟩; rcases hb with hb | hb; omega; rw [b] at hb; cases hb⟩, runs_yes hlt hh]
        congr 1
        rw [refR_in h (runEnd h 256 k) g2 _ (k + 1) rfl (by omega) (by omega) fun i h2 h3 => g3 i (by omega) h3]
        by_cases hl : runEnd h 256 k + 1 < 256
        · have g5 := g4 hl
          rw [refR_step h hl, if_neg (by rw [g5]; rintro ⟨a, _⟩; cases a), List.nil_append, runs_no hl g5]
          exact refR_runs h n (runEnd h 256 k + 1 + 1) (by omega) (by omega) (.inr (by simpa using g5))
        · rw [show runEnd h 256 k + 1 = 256 by omega, runs_end (by omega)]
          rfl
    · rw [show k = 256 by omega, runs_end (by omega)]
      rfl
theorem refR_all (h : Nat → Bool) : refR h 256 = runsGo h 256 0 := refR_runs h 256 0 (by omega) (by omega) (.inl rfl)
section
variable (c0 c1 c2 c3 : Int) (hc : okC ⟨c0, c1, c2, c3⟩)
include hc
theorem rhas_c (b : Nat) (hb : b < 256) (w : World) : Calls Tryd.prog 38 #[.agg #[.int .u64 c0, .int .u64 c1, .int .u64 c2, .int .u64 c3], .int .i64 (b : Int)] w fun e w' => e = .returned (.bool (hasC ⟨c0, c1, c2, c3⟩ b)) ∧ Below w.heap.size w w' :=
  rhas_any _ hc (b : Int) (by omega) (by omega) w
set_option maxHeartbeats 16000000 in
theorem refset_any (w : World) : Calls Tryd.prog 20 #[.agg #[.int .u64 c0, .int .u64 c1, .int .u64 c2, .int .u64 c3]] w fun e w' => e = .returned (.string (tx (setX (hasC ⟨c0, c1, c2, c3⟩)))) ∧ Below w.heap.size w w' := by
  have hhas := fun b hb W => rhas_c c0 c1 c2 c3 hc b hb W
  obtain ⟨h, hh⟩ : ∃ h, h = hasC ⟨c0, c1, c2, c3⟩ := ⟨_, rfl⟩
  rw [← hh] at hhas ⊢
  have HHAS := Lib.hid hhas
  have HBLK := Lib.hid (heap_alloc_new w (.cells #[.int .u64 c0, .int .u64 c1, .int .u64 c2, .int .u64 c3] 24))
  have hbw0 : Below (w.heap.size + 1) (w.alloc (.cells #[.int .u64 c0, .int .u64 c1, .int .u64 c2, .int .u64 c3] 24)) (w.alloc (.cells #[.int .u64 c0, .int .u64 c1, .int .u64 c2, .int .u64 c3] 24)) := by have := Below.refl (w.alloc (.cells #[.int .u64 c0, .int .u64 c1, .int .u64 c2, .int .u64 c3] 24)).heap.size (w.alloc (.cells #[.int .u64 c0, .int .u64 c1, .int .u64 c2, .int .u64 c3] 24)); simpa using this
  have HBW0 := Lib.hid hbw0
  have HBF : Hid (∀ W, Below (w.heap.size + 1) (w.alloc (.cells #[.int .u64 c0, .int .u64 c1, .int .u64 c2, .int .u64 c3] 24)) W → Below w.heap.size w W) := Lib.hid fun W hW => by
    have h1 : Below w.heap.size w (w.alloc (.cells #[.int .u64 c0, .int .u64 c1, .int .u64 c2, .int .u64 c3] 24)) := (Below.refl _ _).alloc (Nat.le_refl _) _
    exact h1.trans (hW.mono (by omega))
  clear hc hhas hh hbw0
  go_enter Tryd.func20, Tryd.ntmps20
  go_wp2_with fail
  go_loopg [3, 4, 5] 257 (fun gg s3 s4 s5 wr => ∃ k : Nat, s5 = .int .i64 (k : Int) ∧ s3 = .int .i64 (cntH h k : Nat) ∧ s4 = .int .i64 (lastH h k : Nat) ∧ k ≤ 256 ∧ 257 - k ≤ gg ∧ Below (w.heap.size + 1) (w.alloc (.cells #[.int .u64 c0, .int .u64 c1, .int .u64 c2, .int .u64 c3] 24)) wr)
  case atStart => exact ⟨0, rfl, rfl, rfl, by omega, by omega, HBW0.out⟩
  case round =>
    obtain ⟨k, rfl, rfl, rfl, hk, hgg, hbw⟩ := hrel
    have HGG := Lib.hid hgg
    have HBW := Lib.hid hbw
    clear hgg hbw HBW0
    by_cases hlt : k < 256
    · have hlz : (k : Int) < 256 := by omega
      obtain ⟨x0, x1, x2, x3⟩ := c4_cells ((HBW.out.block w.heap.size (by omega)).trans HBLK.out)
      have hcall := HHAS.out k hlt wr
      obtain ⟨m, hm⟩ : ∃ m : Nat, m = k + 1 := ⟨_, rfl⟩
      have hwr : IntKind.i64.wrap ((k : Int) + 1) = (m : Int) := by rw [IntKind.wrap_i64]; omega
      have HM := Lib.hid hm
      have hcl := cntH_le h k
      have hc1 : cntH h m = cntH h k + if h k = true then 1 else 0 := by rw [hm, cntH]
      have hl1 : lastH h m = if h k = true then k else lastH h k := by rw [hm, lastH]
      obtain ⟨cn, hcn⟩ : ∃ cn, cn = cntH h k := ⟨_, rfl⟩
      obtain ⟨ln, hln⟩ : ∃ ln, ln = lastH h k := ⟨_, rfl⟩
      rw [← hcn] at hc1 hcl ⊢
      rw [← hln] at hl1 ⊢
      clear hm hcn hln
      cases hhk : h k with
      | false =>
        rw [hhk] at hcall
        rw [hhk, if_neg (by decide)] at hc1 hl1
        have HC1 := Lib.hid hc1
        have HL1 := Lib.hid hl1
        clear hhk hc1 hl1
        go_wp2_with fail
        refine hcall.mono ?_
        rintro e w2 ⟨rfl, hb2⟩
        clear hcall
        go_wp2
        go_roundg (257 - m)
        case measure => have := HM.out; have := HGG.out; omega
        case rel => exact ⟨m, rfl, by rw [HC1.out]; rfl, by rw [HL1.out], by have := HM.out; omega, Nat.le_refl _, HBW.out.trans (hb2.mono (by have := HBW.out.size; simp at this; omega))⟩
      | true =>
        rw [hhk] at hcall
        rw [hhk, if_pos rfl] at hc1 hl1
        have hwc : IntKind.i64.wrap ((cn : Int) + 1) = ((cntH h m : Nat) : Int) := by rw [hc1, IntKind.wrap_i64]; omega
        have HL1 := Lib.hid hl1
        clear hhk hc1 hl1 hcl
        go_wp2_with fail
        refine hcall.mono ?_
        rintro e w2 ⟨rfl, hb2⟩
        clear hcall
        go_wp2
        go_roundg (257 - m)
        case measure => have := HM.out; have := HGG.out; omega
        case rel => exact ⟨m, rfl, rfl, by rw [HL1.out], by have := HM.out; omega, Nat.le_refl _, HBW.out.trans (hb2.mono (by have := HBW.out.size; simp at this; omega))⟩
    · have hlz : ¬ (k : Int) < 256 := by omega
      have hk256 : k = 256 := by omega
      have ec : cntH h k = cntH h 256 := by rw [hk256]
      have el : lastH h k = lastH h 256 := by rw [hk256]
      rw [ec, el]
      clear ec el hk256
      have hX : setX h = if cntH h 256 = 0 then noneX else if cntH h 256 = 1 then byteX (leastH h 256 0) else if cntH h 256 = 256 then [46] else [91] ++ runsGo h 256 0 ++ [93] := rfl
      have hll := last_least h
      have hls := lastH_spec h 256
      have hrl := runs_len h 256 0
      obtain ⟨n, hn⟩ : ∃ n, n = cntH h 256 := ⟨_, rfl⟩
      obtain ⟨ln, hln⟩ : ∃ ln, ln = lastH h 256 := ⟨_, rfl⟩
      rw [← hn] at hX hll hls ⊢
      rw [← hln] at hll hls ⊢
      have HX := Lib.hid hX
      clear hX hn hln
      by_cases h0 : n = 0
      · have HE : Hid (setX h = noneX) := Lib.hid (by rw [HX.out, if_pos h0])
        subst h0
        clear hll hls hrl
        go_wp2
        go_ret
        exact ⟨by rw [HE.out]; rfl, HBF.out _ HBW.out⟩
      by_cases h1 : n = 1
      · have HE : Hid (setX h = byteX ln) := Lib.hid (by rw [HX.out, if_neg h0, if_pos h1, hll h1])
        have hby := refbyte_any ln (hls (by omega)).2
        subst h1
        clear hll hls hrl h0
        go_wp2_with fail
        refine (hby _).mono ?_
        rintro e w2 ⟨rfl, hb2⟩
        go_wp2
        go_ret
        exact ⟨by rw [HE.out]; rfl, HBF.out _ (HBW.out.trans (hb2.mono (by have := HBW.out.size; simp at this; omega)))⟩
      by_cases h2 : n = 256
      · have HE : Hid (setX h = [46]) := Lib.hid (by rw [HX.out, if_neg h0, if_neg h1, if_pos h2])
        subst h2
        clear hll hls hrl h0 h1
        go_wp2
        go_ret
        exact ⟨by rw [HE.out]; rfl, HBF.out _ HBW.out⟩
      have HSE : Hid (setX h = 91 :: runsGo h 256 0 ++ [93]) := Lib.hid (by rw [HX.out, if_neg h0, if_neg h1, if_neg h2]; rfl)
      have hz0 : ((n : Int) == 0) = false := by simp; omega
      have hz1 : ((n : Int) == 1) = false := by simp; omega
      have hz2 : ((n : Int) == 256) = false := by simp; omega
      have HRL := Lib.hid hrl
      clear hll hls h0 h1 h2 hk hlt HGG hrl
      go_wp2_with fail
      go_loopg [6, 7] 257 (fun gg s6 s7 wr => ∃ (k : Nat) (acc : Tx), s7 = .int .i64 (k : Int) ∧ s6 = .string (tx acc) ∧ k ≤ 256 ∧ 257 - k ≤ gg ∧ acc.length ≤ 9 * k + 1 ∧ Hid (acc ++ refR h (256 - k) = 91 :: runsGo h 256 0) ∧ Below (w.heap.size + 1) (w.alloc (.cells #[.int .u64 c0, .int .u64 c1, .int .u64 c2, .int .u64 c3] 24)) wr)
      case atStart => exact ⟨0, [91], rfl, rfl, by omega, by omega, by simp, Lib.hid (by rw [refR_all]; rfl), HBW.out⟩
      case round =>
        obtain ⟨k, acc, rfl, rfl, hk, hgg, hal, hacc, hbw⟩ := hrel
        have HGG := Lib.hid hgg
        have HBW := Lib.hid hbw
        have HAL := Lib.hid hal
        have HACC := hacc
        clear hgg hbw hal hacc hz0 hz1 hz2
        by_cases hlt : k < 256
        · have hlz : (k : Int) < 256 := by omega
          obtain ⟨x0, x1, x2, x3⟩ := c4_cells ((HBW.out.block w.heap.size (by omega)).trans HBLK.out)
          have hcall := HHAS.out k hlt wr
          -- on to the next byte, with nothing written
          have skip : ∀ m, m = k + 1 → ¬ (h k = true ∧ ¬ (0 < k ∧ h (k - 1) = true)) → acc.length ≤ 9 * m + 1 ∧ Hid (acc ++ refR h (256 - m) = 91 :: runsGo h 256 0) := fun m hm hn => by
            have h4 := HACC.out
            rw [refR_step h hlt, if_neg hn, List.nil_append, ← hm] at h4
            exact ⟨by have := HAL.out; omega, Lib.hid h4⟩
          obtain ⟨m, hm⟩ : ∃ m : Nat, m = k + 1 := ⟨_, rfl⟩
          have hwr : IntKind.i64.wrap ((k : Int) + 1) = (m : Int) := by rw [IntKind.wrap_i64]; omega
          have HM := Lib.hid hm
          have HSK := Lib.hid (skip m hm)
          clear skip hm
          cases hhk : h k with
          | false =>
            rw [hhk] at hcall
            have HS := Lib.hid (HSK.out (by rw [hhk]; rintro ⟨a, _⟩; cases a))
            clear hhk HSK
            go_wp2_with fail
            refine hcall.mono ?_
            rintro e w2 ⟨rfl, hb2⟩
            clear hcall
            go_wp2
            go_roundg (257 - m)
            case measure => have := HM.out; have := HGG.out; omega
            case rel => exact ⟨m, acc, rfl, rfl, by have := HM.out; omega, Nat.le_refl _, HS.out.1, HS.out.2, HBW.out.trans (hb2.mono (by have := HBW.out.size; simp at this; omega))⟩
          | true =>
            rw [hhk] at hcall
            have HHK := Lib.hid hhk
            obtain ⟨e, he⟩ : ∃ e, e = runEnd h 256 k := ⟨_, rfl⟩
            have HE := Lib.hid he
            clear hhk he
            go_wp2_with fail
            refine hcall.mono ?_
            rintro x w2 ⟨rfl, hb2⟩
            have HB2 := Lib.hid (HBW.out.trans (hb2.mono (by have := HBW.out.size; simp at this; omega)))
            clear hcall hb2 x0 x1 x2 x3
            by_cases hk0 : k = 0
            · have HGO : Hid (h k = true ∧ ¬ (0 < k ∧ h (k - 1) = true)) := Lib.hid ⟨HHK.out, by omega⟩
              have hz : ¬ (0 : Int) < (k : Int) := by omega
              clear hk0 HSK hwr HM
              go_wp2_with fail
              go_loopg [8] 257 (fun gg s8 wr => ∃ q : Nat, s8 = .int .i64 (q : Int) ∧ k ≤ q ∧ q < 256 ∧ 257 - q ≤ gg ∧ Hid (runEnd h 256 q = e) ∧ Below (w.heap.size + 1) (w.alloc (.cells #[.int .u64 c0, .int .u64 c1, .int .u64 c2, .int .u64 c3] 24)) wr)
              case atStart => exact ⟨k, rfl, Nat.le_refl _, hlt, by omega, Lib.hid HE.out.symm, HB2.out⟩
              case round =>
                obtain ⟨q, rfl, hkq, hq256, hgq, hqe, hbq⟩ := hrel
                have HGQ := Lib.hid hgq
                have HBQ := Lib.hid hbq
                clear hgq hbq HB2
                obtain ⟨m, hm⟩ : ∃ m : Nat, m = q + 1 := ⟨_, rfl⟩
                have hwr : IntKind.i64.wrap ((q : Int) + 1) = (m : Int) := by rw [IntKind.wrap_i64]; omega
                have fin : (¬ (q + 1 < 256 ∧ h (q + 1) = true)) → q = e := fun hn => by rw [← hqe.out, end_no hn]
                have HM := Lib.hid hm
                by_cases hq1 : q + 1 < 256
                · have hmz : (q : Int) < 255 := by omega
                  obtain ⟨x0, x1, x2, x3⟩ := c4_cells ((HBQ.out.block w.heap.size (by omega)).trans HBLK.out)
                  have hcall := HHAS.out m (by omega) wr
                  cases hhm : h m with
                  | true =>
                    rw [hhm] at hcall
                    have HHM := Lib.hid hhm
                    have HKQ := Lib.hid hkq
                    clear hm hhm fin hkq
                    go_wp2_with fail
                    refine hcall.mono ?_
                    rintro x w4 ⟨rfl, hb4⟩
                    clear hcall
                    go_wp2
                    go_roundg (257 - m)
                    case measure => have := HM.out; have := HGQ.out; omega
                    case rel => exact ⟨m, rfl, by have := HM.out; have := HKQ.out; omega, by have := HM.out; omega, Nat.le_refl _, Lib.hid (by rw [HM.out, ← end_yes hq1 (by rw [← HM.out]; exact HHM.out)]; exact hqe.out), HBQ.out.trans (hb4.mono (by have := HBQ.out.size; simp at this; omega))⟩
                  | false =>
                    rw [hhm] at hcall
                    have hqe2 : q = e := fin (fun hn => by rw [← hm, hhm] at hn; cases hn.2)
                    subst hqe2
                    clear hm hhm fin
                    go_wp2_with fail
                    refine hcall.mono ?_
                    rintro x w4 ⟨rfl, hb4⟩
                    have HBQ := Lib.hid (HBQ.out.trans (hb4.mono (by have := HBQ.out.size; simp at this; omega)))
                    clear hcall hb4 x0 x1 x2 x3 hwr HM
                    have by1 := refbyte_any k hlt
                    have by2 := refbyte_any q hq256
                    have l1 := byteX_le k
                    have l2 := byteX_le q
                    obtain ⟨X, hX⟩ : ∃ X, X = byteX k := ⟨_, rfl⟩
                    obtain ⟨Y, hY⟩ : ∃ Y, Y = byteX q := ⟨_, rfl⟩
                    have hRX : runX k q = if q = k then X else if q = k + 1 then X ++ Y else X ++ [45] ++ Y := by rw [hX, hY]; rfl
                    rw [← hX] at by1 l1
                    rw [← hY] at by2 l2
                    obtain ⟨U, hU⟩ : ∃ U, U = acc ++ X := ⟨_, rfl⟩
                    obtain ⟨V, hV⟩ : ∃ V, V = U ++ [45] := ⟨_, rfl⟩
                    have hUl : U.length ≤ 100000 := by rw [hU, List.length_append]; have := HAL.out; omega
                    have hVl : V.length ≤ 100001 := by rw [hV, List.length_append]; simp; omega
                    have s1 : ∀ W, (AddS (tx acc) (tx X)).run Tryd.prog W = .ok (.string (tx U)) W := fun W => by rw [hU]; exact adds_run W acc X (by have := HAL.out; omega)
                    have s2 : ∀ W, (AddS (tx U) ⟨#[45]⟩).run Tryd.prog W = .ok (.string (tx V)) W := fun W => by rw [hV]; exact adds_run W U [45] (by simp; omega)
                    have s3 : ∀ W, (AddS (tx U) (tx Y)).run Tryd.prog W = .ok (.string (tx (U ++ Y))) W := fun W => adds_run W U Y (by omega)
                    have s4 : ∀ W, (AddS (tx V) (tx Y)).run Tryd.prog W = .ok (.string (tx (V ++ Y))) W := fun W => adds_run W V Y (by omega)
                    obtain ⟨m2, hm2⟩ : ∃ m : Nat, m = k + 1 := ⟨_, rfl⟩
                    have hwk : IntKind.i64.wrap ((k : Int) + 1) = (m2 : Int) := by rw [IntKind.wrap_i64]; omega
                    have HU := Lib.hid hU
                    have HV := Lib.hid hV
                    have HRX := Lib.hid hRX
                    have HM2 := Lib.hid hm2
                    have HKQ2 := Lib.hid hkq
                    clear hX hY hU hV hUl hVl hRX l1 l2
                    have nxt : ∀ acc', acc' = acc ++ runX k q → acc'.length ≤ 9 * m2 + 1 ∧ Hid (acc' ++ refR h (256 - m2) = 91 :: runsGo h 256 0) := fun acc' e => by
                      have h1 := runX_le k q
                      have h2 := HAL.out
                      have h3 := HM2.out
                      refine ⟨by rw [e, List.length_append]; omega, Lib.hid ?_⟩
                      have h4 := HACC.out
                      rw [refR_step h hlt, if_pos HGO.out, ← HE.out, ← h3] at h4
                      rw [e, List.append_assoc]
                      exact h4
                    have NXT := Lib.hid nxt
                    clear nxt hm2
                    by_cases g0 : q = k
                    · have z1 : ¬ (m2 : Int) < (q : Int) := by have := HM2.out; omega
                      have z2 : ¬ (k : Int) < (q : Int) := by omega
                      have G0 := Lib.hid g0
                      clear g0 hkq
                      go_wp2_with fail
                      refine (by1 _).mono ?_
                      rintro x w5 ⟨rfl, hb5⟩
                      clear hmz hz hq1
                      go_wp2
                      go_roundg (257 - m2)
                      case measure => have := HM2.out; have := HGG.out; omega
                      case rel =>
                        obtain ⟨a1, a2⟩ := NXT.out (U) (by rw [HRX.out, if_pos G0.out, HU.out])
                        exact ⟨m2, U, rfl, rfl, by have := HM2.out; omega, Nat.le_refl _, a1, a2, HBQ.out.trans (hb5.mono (by have := HBQ.out.size; simp at this; omega))⟩
                    · by_cases g1 : q = k + 1
                      · have z1 : ¬ (m2 : Int) < (q : Int) := by have := HM2.out; omega
                        have z2 : (k : Int) < (q : Int) := by omega
                        have G0 := Lib.hid g0
                        have G1 := Lib.hid g1
                        clear g0 g1 hkq
                        go_wp2_with fail
                        refine (by1 _).mono ?_
                        rintro x w5 ⟨rfl, hb5⟩
                        clear hmz hz hq1
                        go_wp2_with fail
                        refine (by2 _).mono ?_
                        rintro x w6 ⟨rfl, hb6⟩
                        go_wp2
                        go_roundg (257 - m2)
                        case measure => have := HM2.out; have := HGG.out; omega
                        case rel =>
                          obtain ⟨a1, a2⟩ := NXT.out (U ++ Y) (by rw [HRX.out, if_neg G0.out, if_pos G1.out, HU.out, List.append_assoc])
                          exact ⟨m2, U ++ Y, rfl, rfl, by have := HM2.out; omega, Nat.le_refl _, a1, a2, (HBQ.out.trans (hb5.mono (by have := HBQ.out.size; simp at this; omega))).trans (hb6.mono (by have := (HBQ.out.trans (hb5.mono (by have := HBQ.out.size; simp at this; omega))).size; simp at this; omega))⟩
                      · have z1 : (m2 : Int) < (q : Int) := by have := HM2.out; omega
                        have z2 : (k : Int) < (q : Int) := by omega
                        have G0 := Lib.hid g0
                        have G1 := Lib.hid g1
                        clear g0 g1 hkq
                        go_wp2_with fail
                        refine (by1 _).mono ?_
                        rintro x w5 ⟨rfl, hb5⟩
                        clear hmz hz hq1
                        go_wp2_with fail
                        refine (by2 _).mono ?_
                        rintro x w6 ⟨rfl, hb6⟩
                        go_wp2
                        go_roundg (257 - m2)
                        case measure => have := HM2.out; have := HGG.out; omega
                        case rel =>
                          obtain ⟨a1, a2⟩ := NXT.out (V ++ Y) (by rw [HRX.out, if_neg G0.out, if_neg G1.out, HV.out, HU.out, List.append_assoc, List.append_assoc, List.append_assoc])
                          exact ⟨m2, V ++ Y, rfl, rfl, by have := HM2.out; omega, Nat.le_refl _, a1, a2, (HBQ.out.trans (hb5.mono (by have := HBQ.out.size; simp at this; omega))).trans (hb6.mono (by have := (HBQ.out.trans (hb5.mono (by have := HBQ.out.size; simp at this; omega))).size; simp at this; omega))⟩
                · have hqe2 : q = e := fin (fun hn => hq1 hn.1)
                  subst hqe2
                  have hmz : ¬ (q : Int) < 255 := by omega
                  clear hm fin hwr HM
                  have by1 := refbyte_any k hlt
                  have by2 := refbyte_any q hq256
                  have l1 := byteX_le k
                  have l2 := byteX_le q
                  obtain ⟨X, hX⟩ : ∃ X, X = byteX k := ⟨_, rfl⟩
                  obtain ⟨Y, hY⟩ : ∃ Y, Y = byteX q := ⟨_, rfl⟩
                  have hRX : runX k q = if q = k then X else if q = k + 1 then X ++ Y else X ++ [45] ++ Y := by rw [hX, hY]; rfl
                  rw [← hX] at by1 l1
                  rw [← hY] at by2 l2
                  obtain ⟨U, hU⟩ : ∃ U, U = acc ++ X := ⟨_, rfl⟩
                  obtain ⟨V, hV⟩ : ∃ V, V = U ++ [45] := ⟨_, rfl⟩
                  have hUl : U.length ≤ 100000 := by rw [hU, List.length_append]; have := HAL.out; omega
                  have hVl : V.length ≤ 100001 := by rw [hV, List.length_append]; simp; omega
                  have s1 : ∀ W, (AddS (tx acc) (tx X)).run Tryd.prog W = .ok (.string (tx U)) W := fun W => by rw [hU]; exact adds_run W acc X (by have := HAL.out; omega)
                  have s2 : ∀ W, (AddS (tx U) ⟨#[45]⟩).run Tryd.prog W = .ok (.string (tx V)) W := fun W => by rw [hV]; exact adds_run W U [45] (by simp; omega)
                  have s3 : ∀ W, (AddS (tx U) (tx Y)).run Tryd.prog W = .ok (.string (tx (U ++ Y))) W := fun W => adds_run W U Y (by omega)
                  have s4 : ∀ W, (AddS (tx V) (tx Y)).run Tryd.prog W = .ok (.string (tx (V ++ Y))) W := fun W => adds_run W V Y (by omega)
                  obtain ⟨m2, hm2⟩ : ∃ m : Nat, m = k + 1 := ⟨_, rfl⟩
                  have hwk : IntKind.i64.wrap ((k : Int) + 1) = (m2 : Int) := by rw [IntKind.wrap_i64]; omega
                  have HU := Lib.hid hU
                  have HV := Lib.hid hV
                  have HRX := Lib.hid hRX
                  have HM2 := Lib.hid hm2
                  have HKQ2 := Lib.hid hkq
                  clear hX hY hU hV hUl hVl hRX l1 l2
                  have nxt : ∀ acc', acc' = acc ++ runX k q → acc'.length ≤ 9 * m2 + 1 ∧ Hid (acc' ++ refR h (256 - m2) = 91 :: runsGo h 256 0) := fun acc' e => by
                    have h1 := runX_le k q
                    have h2 := HAL.out
                    have h3 := HM2.out
                    refine ⟨by rw [e, List.length_append]; omega, Lib.hid ?_⟩
                    have h4 := HACC.out
                    rw [refR_step h hlt, if_pos HGO.out, ← HE.out, ← h3] at h4
                    rw [e, List.append_assoc]
                    exact h4
                  have NXT := Lib.hid nxt
                  clear nxt hm2
                  by_cases g0 : q = k
                  · have z1 : ¬ (m2 : Int) < (q : Int) := by have := HM2.out; omega
                    have z2 : ¬ (k : Int) < (q : Int) := by omega
                    have G0 := Lib.hid g0
                    clear g0 hkq
                    go_wp2_with fail
                    refine (by1 _).mono ?_
                    rintro x w5 ⟨rfl, hb5⟩
                    clear hmz hz hq1
                    go_wp2
                    go_roundg (257 - m2)
                    case measure => have := HM2.out; have := HGG.out; omega
                    case rel =>
                      obtain ⟨a1, a2⟩ := NXT.out (U) (by rw [HRX.out, if_pos G0.out, HU.out])
                      exact ⟨m2, U, rfl, rfl, by have := HM2.out; omega, Nat.le_refl _, a1, a2, HBQ.out.trans (hb5.mono (by have := HBQ.out.size; simp at this; omega))⟩
                  · by_cases g1 : q = k + 1
                    · have z1 : ¬ (m2 : Int) < (q : Int) := by have := HM2.out; omega
                      have z2 : (k : Int) < (q : Int) := by omega
                      have G0 := Lib.hid g0
                      have G1 := Lib.hid g1
                      clear g0 g1 hkq
                      go_wp2_with fail
                      refine (by1 _).mono ?_
                      rintro x w5 ⟨rfl, hb5⟩
                      clear hmz hz hq1
                      go_wp2_with fail
                      refine (by2 _).mono ?_
                      rintro x w6 ⟨rfl, hb6⟩
                      go_wp2
                      go_roundg (257 - m2)
                      case measure => have := HM2.out; have := HGG.out; omega
                      case rel =>
                        obtain ⟨a1, a2⟩ := NXT.out (U ++ Y) (by rw [HRX.out, if_neg G0.out, if_pos G1.out, HU.out, List.append_assoc])
                        exact ⟨m2, U ++ Y, rfl, rfl, by have := HM2.out; omega, Nat.le_refl _, a1, a2, (HBQ.out.trans (hb5.mono (by have := HBQ.out.size; simp at this; omega))).trans (hb6.mono (by have := (HBQ.out.trans (hb5.mono (by have := HBQ.out.size; simp at this; omega))).size; simp at this; omega))⟩
                    · have z1 : (m2 : Int) < (q : Int) := by have := HM2.out; omega
                      have z2 : (k : Int) < (q : Int) := by omega
                      have G0 := Lib.hid g0
                      have G1 := Lib.hid g1
                      clear g0 g1 hkq
                      go_wp2_with fail
                      refine (by1 _).mono ?_
                      rintro x w5 ⟨rfl, hb5⟩
                      clear hmz hz hq1
                      go_wp2_with fail
                      refine (by2 _).mono ?_
                      rintro x w6 ⟨rfl, hb6⟩
                      go_wp2
                      go_roundg (257 - m2)
                      case measure => have := HM2.out; have := HGG.out; omega
                      case rel =>
                        obtain ⟨a1, a2⟩ := NXT.out (V ++ Y) (by rw [HRX.out, if_neg G0.out, if_neg G1.out, HV.out, HU.out, List.append_assoc, List.append_assoc, List.append_assoc])
                        exact ⟨m2, V ++ Y, rfl, rfl, by have := HM2.out; omega, Nat.le_refl _, a1, a2, (HBQ.out.trans (hb5.mono (by have := HBQ.out.size; simp at this; omega))).trans (hb6.mono (by have := (HBQ.out.trans (hb5.mono (by have := HBQ.out.size; simp at this; omega))).size; simp at this; omega))⟩
            · have hz : (0 : Int) < (k : Int) := by omega
              obtain ⟨x0, x1, x2, x3⟩ := c4_cells ((HB2.out.block w.heap.size (by omega)).trans HBLK.out)
              obtain ⟨j, hj⟩ : ∃ j : Nat, j = k - 1 := ⟨_, rfl⟩
              have hwj : IntKind.i64.wrap ((k : Int) - 1) = (j : Int) := by rw [IntKind.wrap_i64]; omega
              have hcall := HHAS.out j (by omega) w2
              cases hhj : h j with
              | true =>
                rw [hhj] at hcall
                have HS := Lib.hid (HSK.out (by rintro ⟨_, b⟩; exact b ⟨by omega, by rw [← hj]; exact hhj⟩))
                clear hhj HSK hj hk0
                go_wp2_with fail
                refine hcall.mono ?_
                rintro e w3 ⟨rfl, hb3⟩
                clear hcall
                go_wp2
                go_roundg (257 - m)
                case measure => have := HM.out; have := HGG.out; omega
                case rel => exact ⟨m, acc, rfl, rfl, by have := HM.out; omega, Nat.le_refl _, HS.out.1, HS.out.2, HB2.out.trans (hb3.mono (by have := HB2.out.size; simp at this; omega))⟩
              | false =>
                rw [hhj] at hcall
                have HGO : Hid (h k = true ∧ ¬ (0 < k ∧ h (k - 1) = true)) := Lib.hid ⟨HHK.out, by rintro ⟨_, b⟩; rw [← hj, hhj] at b; cases b⟩
                clear hhj HSK hj hk0 hwr HM
                go_wp2_with fail
                refine hcall.mono ?_
                rintro x w3 ⟨rfl, hb3⟩
                have HB2 := Lib.hid (HB2.out.trans (hb3.mono (by have := HB2.out.size; simp at this; omega)))
                clear hcall hb3 x0 x1 x2 x3 hwj
                go_wp2_with fail
                go_loopg [8] 257 (fun gg s8 wr => ∃ q : Nat, s8 = .int .i64 (q : Int) ∧ k ≤ q ∧ q < 256 ∧ 257 - q ≤ gg ∧ Hid (runEnd h 256 q = e) ∧ Below (w.heap.size + 1) (w.alloc (.cells #[.int .u64 c0, .int .u64 c1, .int .u64 c2, .int .u64 c3] 24)) wr)
                case atStart => exact ⟨k, rfl, Nat.le_refl _, hlt, by omega, Lib.hid HE.out.symm, HB2.out⟩
                case round =>
                  obtain ⟨q, rfl, hkq, hq256, hgq, hqe, hbq⟩ := hrel
                  have HGQ := Lib.hid hgq
                  have HBQ := Lib.hid hbq
                  clear hgq hbq HB2
                  obtain ⟨m, hm⟩ : ∃ m : Nat, m = q + 1 := ⟨_, rfl⟩
                  have hwr : IntKind.i64.wrap ((q : Int) + 1) = (m : Int) := by rw [IntKind.wrap_i64]; omega
                  have fin : (¬ (q + 1 < 256 ∧ h (q + 1) = true)) → q = e := fun hn => by rw [← hqe.out, end_no hn]
                  have HM := Lib.hid hm
                  by_cases hq1 : q + 1 < 256
                  · have hmz : (q : Int) < 255 := by omega
                    obtain ⟨x0, x1, x2, x3⟩ := c4_cells ((HBQ.out.block w.heap.size (by omega)).trans HBLK.out)
                    have hcall := HHAS.out m (by omega) wr
                    cases hhm : h m with
                    | true =>
                      rw [hhm] at hcall
                      have HHM := Lib.hid hhm
                      have HKQ := Lib.hid hkq
                      clear hm hhm fin hkq
                      go_wp2_with fail
                      refine hcall.mono ?_
                      rintro x w4 ⟨rfl, hb4⟩
                      clear hcall
                      go_wp2
                      go_roundg (257 - m)
                      case measure => have := HM.out; have := HGQ.out; omega
                      case rel => exact ⟨m, rfl, by have := HM.out; have := HKQ.out; omega, by have := HM.out; omega, Nat.le_refl _, Lib.hid (by rw [HM.out, ← end_yes hq1 (by rw [← HM.out]; exact HHM.out)]; exact hqe.out), HBQ.out.trans (hb4.mono (by have := HBQ.out.size; simp at this; omega))⟩
                    | false =>
                      rw [hhm] at hcall
                      have hqe2 : q = e := fin (fun hn => by rw [← hm, hhm] at hn; cases hn.2)
                      subst hqe2
                      clear hm hhm fin
                      go_wp2_with fail
                      refine hcall.mono ?_
                      rintro x w4 ⟨rfl, hb4⟩
                      have HBQ := Lib.hid (HBQ.out.trans (hb4.mono (by have := HBQ.out.size; simp at this; omega)))
                      clear hcall hb4 x0 x1 x2 x3 hwr HM
                      have by1 := refbyte_any k hlt
                      have by2 := refbyte_any q hq256
                      have l1 := byteX_le k
                      have l2 := byteX_le q
                      obtain ⟨X, hX⟩ : ∃ X, X = byteX k := ⟨_, rfl⟩
                      obtain ⟨Y, hY⟩ : ∃ Y, Y = byteX q := ⟨_, rfl⟩
                      have hRX : runX k q = if q = k then X else if q = k + 1 then X ++ Y else X ++ [45] ++ Y := by rw [hX, hY]; rfl
                      rw [← hX] at by1 l1
                      rw [← hY] at by2 l2
                      obtain ⟨U, hU⟩ : ∃ U, U = acc ++ X := ⟨_, rfl⟩
                      obtain ⟨V, hV⟩ : ∃ V, V = U ++ [45] := ⟨_, rfl⟩
                      have hUl : U.length ≤ 100000 := by rw [hU, List.length_append]; have := HAL.out; omega
                      have hVl : V.length ≤ 100001 := by rw [hV, List.length_append]; simp; omega
                      have s1 : ∀ W, (AddS (tx acc) (tx X)).run Tryd.prog W = .ok (.string (tx U)) W := fun W => by rw [hU]; exact adds_run W acc X (by have := HAL.out; omega)
                      have s2 : ∀ W, (AddS (tx U) ⟨#[45]⟩).run Tryd.prog W = .ok (.string (tx V)) W := fun W => by rw [hV]; exact adds_run W U [45] (by simp; omega)
                      have s3 : ∀ W, (AddS (tx U) (tx Y)).run Tryd.prog W = .ok (.string (tx (U ++ Y))) W := fun W => adds_run W U Y (by omega)
                      have s4 : ∀ W, (AddS (tx V) (tx Y)).run Tryd.prog W = .ok (.string (tx (V ++ Y))) W := fun W => adds_run W V Y (by omega)
                      obtain ⟨m2, hm2⟩ : ∃ m : Nat, m = k + 1 := ⟨_, rfl⟩
                      have hwk : IntKind.i64.wrap ((k : Int) + 1) = (m2 : Int) := by rw [IntKind.wrap_i64]; omega
                      have HU := Lib.hid hU
                      have HV := Lib.hid hV
                      have HRX := Lib.hid hRX
                      have HM2 := Lib.hid hm2
                      have HKQ2 := Lib.hid hkq
                      clear hX hY hU hV hUl hVl hRX l1 l2
                      have nxt : ∀ acc', acc' = acc ++ runX k q → acc'.length ≤ 9 * m2 + 1 ∧ Hid (acc' ++ refR h (256 - m2) = 91 :: runsGo h 256 0) := fun acc' e => by
                        have h1 := runX_le k q
                        have h2 := HAL.out
                        have h3 := HM2.out
                        refine ⟨by rw [e, List.length_append]; omega, Lib.hid ?_⟩
                        have h4 := HACC.out
                        rw [refR_step h hlt, if_pos HGO.out, ← HE.out, ← h3] at h4
                        rw [e, List.append_assoc]
                        exact h4
                      have NXT := Lib.hid nxt
                      clear nxt hm2
                      by_cases g0 : q = k
                      · have z1 : ¬ (m2 : Int) < (q : Int) := by have := HM2.out; omega
                        have z2 : ¬ (k : Int) < (q : Int) := by omega
                        have G0 := Lib.hid g0
                        clear g0 hkq
                        go_wp2_with fail
                        refine (by1 _).mono ?_
                        rintro x w5 ⟨rfl, hb5⟩
                        clear hmz hz hq1
                        go_wp2
                        go_roundg (257 - m2)
                        case measure => have := HM2.out; have := HGG.out; omega
                        case rel =>
                          obtain ⟨a1, a2⟩ := NXT.out (U) (by rw [HRX.out, if_pos G0.out, HU.out])
                          exact ⟨m2, U, rfl, rfl, by have := HM2.out; omega, Nat.le_refl _, a1, a2, HBQ.out.trans (hb5.mono (by have := HBQ.out.size; simp at this; omega))⟩
                      · by_cases g1 : q = k + 1
                        · have z1 : ¬ (m2 : Int) < (q : Int) := by have := HM2.out; omega
                          have z2 : (k : Int) < (q : Int) := by omega
                          have G0 := Lib.hid g0
                          have G1 := Lib.hid g1
                          clear g0 g1 hkq
                          go_wp2_with fail
                          refine (by1 _).mono ?_
                          rintro x w5 ⟨rfl, hb5⟩
                          clear hmz hz hq1
                          go_wp2_with fail
                          refine (by2 _).mono ?_
                          rintro x w6 ⟨rfl, hb6⟩
                          go_wp2
                          go_roundg (257 - m2)
                          case measure => have := HM2.out; have := HGG.out; omega
                          case rel =>
                            obtain ⟨a1, a2⟩ := NXT.out (U ++ Y) (by rw [HRX.out, if_neg G0.out, if_pos G1.out, HU.out, List.append_assoc])
                            exact ⟨m2, U ++ Y, rfl, rfl, by have := HM2.out; omega, Nat.le_refl _, a1, a2, (HBQ.out.trans (hb5.mono (by have := HBQ.out.size; simp at this; omega))).trans (hb6.mono (by have := (HBQ.out.trans (hb5.mono (by have := HBQ.out.size; simp at this; omega))).size; simp at this; omega))⟩
                        · have z1 : (m2 : Int) < (q : Int) := by have := HM2.out; omega
                          have z2 : (k : Int) < (q : Int) := by omega
                          have G0 := Lib.hid g0
                          have G1 := Lib.hid g1
                          clear g0 g1 hkq
                          go_wp2_with fail
                          refine (by1 _).mono ?_
                          rintro x w5 ⟨rfl, hb5⟩
                          clear hmz hz hq1
                          go_wp2_with fail
                          refine (by2 _).mono ?_
                          rintro x w6 ⟨rfl, hb6⟩
                          go_wp2
                          go_roundg (257 - m2)
                          case measure => have := HM2.out; have := HGG.out; omega
                          case rel =>
                            obtain ⟨a1, a2⟩ := NXT.out (V ++ Y) (by rw [HRX.out, if_neg G0.out, if_neg G1.out, HV.out, HU.out, List.append_assoc, List.append_assoc, List.append_assoc])
                            exact ⟨m2, V ++ Y, rfl, rfl, by have := HM2.out; omega, Nat.le_refl _, a1, a2, (HBQ.out.trans (hb5.mono (by have := HBQ.out.size; simp at this; omega))).trans (hb6.mono (by have := (HBQ.out.trans (hb5.mono (by have := HBQ.out.size; simp at this; omega))).size; simp at this; omega))⟩
                  · have hqe2 : q = e := fin (fun hn => hq1 hn.1)
                    subst hqe2
                    have hmz : ¬ (q : Int) < 255 := by omega
                    clear hm fin hwr HM
                    have by1 := refbyte_any k hlt
                    have by2 := refbyte_any q hq256
                    have l1 := byteX_le k
                    have l2 := byteX_le q
                    obtain ⟨X, hX⟩ : ∃ X, X = byteX k := ⟨_, rfl⟩
                    obtain ⟨Y, hY⟩ : ∃ Y, Y = byteX q := ⟨_, rfl⟩
                    have hRX : runX k q = if q = k then X else if q = k + 1 then X ++ Y else X ++ [45] ++ Y := by rw [hX, hY]; rfl
                    rw [← hX] at by1 l1
                    rw [← hY] at by2 l2
                    obtain ⟨U, hU⟩ : ∃ U, U = acc ++ X := ⟨_, rfl⟩
                    obtain ⟨V, hV⟩ : ∃ V, V = U ++ [45] := ⟨_, rfl⟩
                    have hUl : U.length ≤ 100000 := by rw [hU, List.length_append]; have := HAL.out; omega
                    have hVl : V.length ≤ 100001 := by rw [hV, List.length_append]; simp; omega
                    have s1 : ∀ W, (AddS (tx acc) (tx X)).run Tryd.prog W = .ok (.string (tx U)) W := fun W => by rw [hU]; exact adds_run W acc X (by have := HAL.out; omega)
                    have s2 : ∀ W, (AddS (tx U) ⟨#[45]⟩).run Tryd.prog W = .ok (.string (tx V)) W := fun W => by rw [hV]; exact adds_run W U [45] (by simp; omega)
                    have s3 : ∀ W, (AddS (tx U) (tx Y)).run Tryd.prog W = .ok (.string (tx (U ++ Y))) W := fun W => adds_run W U Y (by omega)
                    have s4 : ∀ W, (AddS (tx V) (tx Y)).run Tryd.prog W = .ok (.string (tx (V ++ Y))) W := fun W => adds_run W V Y (by omega)
                    obtain ⟨m2, hm2⟩ : ∃ m : Nat, m = k + 1 := ⟨_, rfl⟩
                    have hwk : IntKind.i64.wrap ((k : Int) + 1) = (m2 : Int) := by rw [IntKind.wrap_i64]; omega
                    have HU := Lib.hid hU
                    have HV := Lib.hid hV
                    have HRX := Lib.hid hRX
                    have HM2 := Lib.hid hm2
                    have HKQ2 := Lib.hid hkq
                    clear hX hY hU hV hUl hVl hRX l1 l2
                    have nxt : ∀ acc', acc' = acc ++ runX k q → acc'.length ≤ 9 * m2 + 1 ∧ Hid (acc' ++ refR h (256 - m2) = 91 :: runsGo h 256 0) := fun acc' e => by
                      have h1 := runX_le k q
                      have h2 := HAL.out
                      have h3 := HM2.out
                      refine ⟨by rw [e, List.length_append]; omega, Lib.hid ?_⟩
                      have h4 := HACC.out
                      rw [refR_step h hlt, if_pos HGO.out, ← HE.out, ← h3] at h4
                      rw [e, List.append_assoc]
                      exact h4
                    have NXT := Lib.hid nxt
                    clear nxt hm2
                    by_cases g0 : q = k
                    · have z1 : ¬ (m2 : Int) < (q : Int) := by have := HM2.out; omega
                      have z2 : ¬ (k : Int) < (q : Int) := by omega
                      have G0 := Lib.hid g0
                      clear g0 hkq
                      go_wp2_with fail
                      refine (by1 _).mono ?_
                      rintro x w5 ⟨rfl, hb5⟩
                      clear hmz hz hq1
                      go_wp2
                      go_roundg (257 - m2)
                      case measure => have := HM2.out; have := HGG.out; omega
                      case rel =>
                        obtain ⟨a1, a2⟩ := NXT.out (U) (by rw [HRX.out, if_pos G0.out, HU.out])
                        exact ⟨m2, U, rfl, rfl, by have := HM2.out; omega, Nat.le_refl _, a1, a2, HBQ.out.trans (hb5.mono (by have := HBQ.out.size; simp at this; omega))⟩
                    · by_cases g1 : q = k + 1
                      · have z1 : ¬ (m2 : Int) < (q : Int) := by have := HM2.out; omega
                        have z2 : (k : Int) < (q : Int) := by omega
                        have G0 := Lib.hid g0
                        have G1 := Lib.hid g1
                        clear g0 g1 hkq
                        go_wp2_with fail
                        refine (by1 _).mono ?_
                        rintro x w5 ⟨rfl, hb5⟩
                        clear hmz hz hq1
                        go_wp2_with fail
                        refine (by2 _).mono ?_
                        rintro x w6 ⟨rfl, hb6⟩
                        go_wp2
                        go_roundg (257 - m2)
                        case measure => have := HM2.out; have := HGG.out; omega
                        case rel =>
                          obtain ⟨a1, a2⟩ := NXT.out (U ++ Y) (by rw [HRX.out, if_neg G0.out, if_pos G1.out, HU.out, List.append_assoc])
                          exact ⟨m2, U ++ Y, rfl, rfl, by have := HM2.out; omega, Nat.le_refl _, a1, a2, (HBQ.out.trans (hb5.mono (by have := HBQ.out.size; simp at this; omega))).trans (hb6.mono (by have := (HBQ.out.trans (hb5.mono (by have := HBQ.out.size; simp at this; omega))).size; simp at this; omega))⟩
                      · have z1 : (m2 : Int) < (q : Int) := by have := HM2.out; omega
                        have z2 : (k : Int) < (q : Int) := by omega
                        have G0 := Lib.hid g0
                        have G1 := Lib.hid g1
                        clear g0 g1 hkq
                        go_wp2_with fail
                        refine (by1 _).mono ?_
                        rintro x w5 ⟨rfl, hb5⟩
                        clear hmz hz hq1
                        go_wp2_with fail
                        refine (by2 _).mono ?_
                        rintro x w6 ⟨rfl, hb6⟩
                        go_wp2
                        go_roundg (257 - m2)
                        case measure => have := HM2.out; have := HGG.out; omega
                        case rel =>
                          obtain ⟨a1, a2⟩ := NXT.out (V ++ Y) (by rw [HRX.out, if_neg G0.out, if_neg G1.out, HV.out, HU.out, List.append_assoc, List.append_assoc, List.append_assoc])
                          exact ⟨m2, V ++ Y, rfl, rfl, by have := HM2.out; omega, Nat.le_refl _, a1, a2, (HBQ.out.trans (hb5.mono (by have := HBQ.out.size; simp at this; omega))).trans (hb6.mono (by have := (HBQ.out.trans (hb5.mono (by have := HBQ.out.size; simp at this; omega))).size; simp at this; omega))⟩
        · have hlz : ¬ (k : Int) < 256 := by omega
          obtain rfl : k = 256 := by omega
          have hfin : acc = 91 :: runsGo h 256 0 := by
            have := HACC.out
            rw [show 256 - 256 = 0 from rfl, refR, List.append_nil] at this
            exact this
          have hs : ∀ W, (AddS (tx acc) ⟨#[93]⟩).run Tryd.prog W = .ok (.string (tx (acc ++ [93]))) W := fun W => adds_run W acc [93] (by have := HAL.out; simp; omega)
          have HF := Lib.hid hfin
          clear hfin
          go_wp2
          go_ret
          exact ⟨by rw [HSE.out, ← HF.out]; rfl, HBF.out _ HBW.out⟩
end
end Go.Proofs.YtaohlmcgaggoeaaDoor.P
/- Layer 3, the document's: a tree's text: the walk. -/
namespace Go.Proofs.YtaohlmcgaggoeaaDoor.P
open Go.RowKit Go.Proofs.YtaohlmcgaggoeaaDoor Go.Proofs.YtaohlmcgaggoeaaDoorW.PrintWords Go.Proofs.YtaohlmcgaggoeaaDoorW.PrintLast Go.Proofs.YtaohlmcgaggoeaaDoorW.PrintMore
set_option linter.unusedVariables false
set_option linter.unusedSimpArgs false
set_option maxRecDepth 100000
attribute [local go_sem ↓] addS
theorem joinX_snoc (sep : Tx) : ∀ (l : List Tx) (z : Tx), joinX sep (l ++ [z]) = if l = [] then z else joinX sep l ++ sep ++ z
  | [], z => rfl
  | [x], z => by rw [if_neg (by simp)]; rfl
  | x :: y :: r, z => by
    have h := joinX_snoc sep (y :: r) z
    rw [if_neg (by simp)] at h ⊢
    show x ++ sep ++ joinX sep (y :: r ++ [z]) = _
    rw [h, joinX_cons]
    simp
theorem sum_len (k : Int) : ∀ l : List T, (∀ p ∈ l, formedT p = true) → ((showL k l).map fun y => y.length + 1).sum ≤ 2500 * cntL l
  | [], _ => by rw [showL, cntL]; simp
  | p :: l, h => by
    have h1 := showT_len (h p (by simp))
    have h2 := sum_len k l fun q hq => h q (List.mem_cons_of_mem _ hq)
    have h3 := parX_len k p.f0 (showT p)
    rw [showL, cntL]
    simp only [List.map_cons, List.sum_cons]
    omega
theorem pre_len {k : Int} {ps : List T} (h : ∀ p ∈ ps, formedT p = true) (i : Nat) (sep : Tx) (hs : sep.length ≤ 1) : (joinX sep ((showL k ps).take i)).length ≤ 2500 * cntL ps := by
  have e : (showL k ps).take i = showL k (ps.take i) := by rw [showL_map, showL_map, List.map_take]
  rw [e]
  have h1 := joinX_len sep (showL k (ps.take i))
  have h2 : ((showL k (ps.take i)).map fun y => y.length + sep.length).sum ≤ ((showL k (ps.take i)).map fun y => y.length + 1).sum := by
    generalize showL k (ps.take i) = l
    induction l with
    | nil => simp
    | cons y l ihl => simp only [List.map_cons, List.sum_cons]; omega
  have h3 := sum_len k (ps.take i) fun p hp => h p (List.mem_of_mem_take hp)
  have h4 : cntL (ps.take i) ≤ cntL ps := by
    have := cntL_app (ps.take i) (ps.drop i)
    rw [List.take_append_drop] at this
    omega
  omega
theorem take_next2 {l : List Tx} {k : Nat} {z : Tx} (h : l[k]? = some z) : l.take (k + 1) = l.take k ++ [z] := by rw [List.take_add_one, h]; rfl
/-- The node in its box. -/
structure RfI (w W : World) (x : T) (A : Option Addr) (c : Nat) : Prop where
  blk : W.heap[w.heap.size]? = some (.cells #[.int .i64 x.f0, .int .u64 x.f1.f0, .int .u64 x.f1.f1, .int .u64 x.f1.f2, .int .u64 x.f1.f3, .slice A x.f2.length c, .int .i64 x.f3, .int .i64 x.f4] 27)
  bel : Below w.heap.size w W
  tr0 : Tr w x A c
namespace RfI
variable {w W W' : World} {x : T} {A : Option Addr} {c : Nat}
theorem size (h : RfI w W x A c) : w.heap.size < W.heap.size := blk_lt h.blk
theorem tr (h : RfI w W x A c) : Tr W x A c := h.tr0.below h.bel
theorem below (h : RfI w W x A c) (hb : Below W.heap.size W W') : RfI w W' x A c := ⟨(hb.block _ h.size).trans h.blk, h.bel.trans (hb.mono (Nat.le_of_lt h.size)), h.tr0⟩
theorem start (hT : Tr w x A c) : RfI w (w.alloc (.cells #[.int .i64 x.f0, .int .u64 x.f1.f0, .int .u64 x.f1.f1, .int .u64 x.f1.f2, .int .u64 x.f1.f3, .slice A x.f2.length c, .int .i64 x.f3, .int .i64 x.f4] 27)) x A c :=
  ⟨heap_alloc_new w _, (Below.refl _ _).alloc (Nat.le_refl _) _, hT⟩
end RfI
theorem idx2 (a b : ByteArray) (W : World) : (Instr.index 42 (.agg #[.string a, .string b]) (.int .i64 0)).run Tryd.prog W = .ok (.string a) W := by kernel_rfl
theorem idx2b (a b : ByteArray) (W : World) : (Instr.index 42 (.agg #[.string a, .string b]) (.int .i64 1)).run Tryd.prog W = .ok (.string b) W := by kernel_rfl
def RTextC (x : T) (n : Nat) : Prop := SizeOf.sizeOf x < n → formedT x = true → okW x → cntT x ≤ 100000 → ∀ (A : Option Addr) (c : Nat) (w : World), Tr w x A c →
  Calls Tryd.prog 11 #[ndV x A c] w fun e w' => e = .returned (.string (tx (showT x))) ∧ Below w.heap.size w w'
set_option maxHeartbeats 16000000 in
theorem rtext_n (n : Nat) : ∀ x, RTextC x n := by
  induction n with
  | zero => intro x hn; omega
  | succ n ih =>
    intro x hn hf hw hcn A c w hT
    obtain ⟨hk, h23, h4, h01, hlh, hem, hp⟩ := kindF hf
    have hlen := showT_len hf
    have hpc : ∀ (i : Nat) (hi : i < x.f2.length) (A' : Option Addr) (c' : Nat) (W : World), Tr W x.f2[i] A' c' →
        Calls Tryd.prog 11 #[ndV x.f2[i] A' c'] W fun e w' => e = .returned (.string (tx (showT x.f2[i]))) ∧ Below W.heap.size W w' := fun i hi A' c' W hT' => by
      have hm := List.getElem_mem hi
      have hcm := cntL_mem hm
      have hcx := cntT_eq x
      exact ih _ (by have := mem_lt hm; omega) (hp _ hm) (hw.part _ hm) (by omega) A' c' W hT'
    have hcls := hw.cls
    have hcL : cntL x.f2 ≤ 100000 := by have := cntT_eq x; omega
    have hnl : x.f2.length ≤ 100000 := by
      have key : ∀ l : List T, l.length ≤ cntL l := fun l => by
        induction l with
        | nil => simp
        | cons p l ih => rw [cntL, List.length_cons]; have := cntT_pos p; omega
      have := key x.f2
      omega
    obtain ⟨sep, hsep⟩ : ∃ sep : Tx, sep = if x.f0 = 3 then [124] else [] := ⟨_, rfl⟩
    have hsl : sep.length ≤ 1 := by rw [hsep]; split <;> simp
    obtain ⟨L, hL⟩ : ∃ L, L = showL x.f0 x.f2 := ⟨_, rfl⟩
    have hpl : ∀ i, (joinX sep (L.take i)).length ≤ 250000000 := fun i => by rw [hL]; have := pre_len (k := x.f0) hp i sep hsl; omega
    have hLl : L.length = x.f2.length := by rw [hL, showL_map, List.length_map]
    have hLi : ∀ (i : Nat) (hi : i < x.f2.length), L[i]? = some (parX x.f0 x.f2[i].f0 (showT x.f2[i])) ∧ (showT x.f2[i]).length ≤ 250000000 := fun i hi => by
      refine ⟨by rw [hL, showL_map, List.getElem?_map, List.getElem?_eq_getElem hi]; rfl, ?_⟩
      have hm := List.getElem_mem hi
      have := showT_len (hp _ hm)
      have := cntL_mem hm
      omega
    have hX : showT x = nodeX x.f0 x.f1 L x.f3 x.f4 := by rw [hL]; cases x; rw [showT]
    have HI0 := Lib.hid (RfI.start hT)
    have HPC := Lib.hid hpc
    have HLI := Lib.hid hLi
    have HX := Lib.hid hX
    have HLL := Lib.hid hLl
    have HCLS := Lib.hid hcls
    have HLEN := Lib.hid (show (showT x).length ≤ 250000000 by omega)
    have H4 := Lib.hid h4
    have HNL := Lib.hid hnl
    have HPL := Lib.hid hpl
    have HSEP := Lib.hid hsep
    clear ih hpc hLi hL hX hLl hcls hf hw hcn h23 h01 hlh hem hp hlen h4 hcL hnl hT hpl hsep hsl
    unfold ndV
    go_enter Tryd.func11, Tryd.ntmps11
    go_wp2_with fail
    go_loopg [3, 4] x.f2.length (fun gg s3 s4 wr => ∃ k : Nat, s4 = .int .i64 (k : Int) ∧ s3 = .string (tx (joinX sep (L.take k))) ∧ k ≤ x.f2.length ∧ x.f2.length - k ≤ gg ∧ RfI w wr x A c)
    case atStart => exact ⟨0, rfl, rfl, Nat.zero_le _, Nat.le_refl _, HI0.out⟩
    case round =>
      obtain ⟨k, rfl, rfl, hkl, hgg, hI⟩ := hrel
      have HI := Lib.hid hI
      have HG := Lib.hid hgg
      obtain ⟨n0, n1, n2, n3, n4, n5, n6, n7⟩ := n_cells hI.blk
      by_cases hlt : k < x.f2.length
      · have hlz : (k : Int) < (x.f2.length : Int) := by omega
        obtain ⟨ad, A', c', hA, hT', m0, m1, m2, m3, m4, m5, m6, m7⟩ := hI.tr.child k hlt
        obtain ⟨hLk, hXl⟩ := HLI.out k hlt
        have hbx : Below wr.heap.size wr (wr.alloc (.cells #[.int .i64 x.f2[k].f0, .int .u64 x.f2[k].f1.f0, .int .u64 x.f2[k].f1.f1, .int .u64 x.f2[k].f1.f2, .int .u64 x.f2[k].f1.f3, .slice A' x.f2[k].f2.length c', .int .i64 x.f2[k].f3, .int .i64 x.f2[k].f4] 27)) := (Below.refl _ _).alloc (Nat.le_refl _) _
        have hIb := hI.below hbx
        have hpb := heap_alloc_new wr (.cells #[.int .i64 x.f2[k].f0, .int .u64 x.f2[k].f1.f0, .int .u64 x.f2[k].f1.f1, .int .u64 x.f2[k].f1.f2, .int .u64 x.f2[k].f1.f3, .slice A' x.f2[k].f2.length c', .int .i64 x.f2[k].f3, .int .i64 x.f2[k].f4] 27)
        have hcall := HPC.out k hlt A' c' _ (hT'.below hbx)
        unfold ndV at hcall
        obtain ⟨X, hX⟩ : ∃ X, X = showT x.f2[k] := ⟨_, rfl⟩
        rw [← hX] at hcall hLk hXl
        obtain ⟨⟨pk, ⟨p0, p1, p2, p3⟩, pps, plo, phi⟩, hp⟩ : ∃ p, p = x.f2[k] := ⟨_, rfl⟩
        rw [← hp] at hcall hIb hpb hLk m0 m1 m2 m3 m4 m5 m6 m7
        dsimp only at hcall hIb hpb hLk m0 m1 m2 m3 m4 m5 m6 m7
        obtain ⟨Z, hZ⟩ : ∃ Z, Z = parX x.f0 pk X := ⟨_, rfl⟩
        rw [← hZ] at hLk
        have hpx : Z = if pk = 3 ∨ (x.f0 ≠ 3 ∧ (pk = 2 ∨ pk = 0)) then [40] ++ X ++ [41] else X := hZ
        have hZl : Z.length ≤ 250000002 := by rw [hZ]; have := parX_len x.f0 pk X; omega
        obtain ⟨m, hm⟩ : ∃ m : Nat, m = k + 1 := ⟨_, rfl⟩
        have hwr : IntKind.i64.wrap ((k : Int) + 1) = (m : Int) := by have := HNL.out; rw [IntKind.wrap_i64]; omega
        have HIb := Lib.hid hIb
        have HPB := Lib.hid hpb
        have HM := Lib.hid hm
        have HLK := Lib.hid hLk
        have HPX := Lib.hid hpx
        have HZL := Lib.hid hZl
        have s1 : ∀ W, (AddS ⟨#[40]⟩ (tx X)).run Tryd.prog W = .ok (.string (tx (40 :: X))) W := fun W => adds_run W [40] X (by simp; omega)
        have s2 : ∀ W, (AddS (tx (40 :: X)) ⟨#[41]⟩).run Tryd.prog W = .ok (.string (tx (40 :: X ++ [41]))) W := fun W => adds_run W (40 :: X) [41] (by simp; omega)
        obtain ⟨acc, hacc⟩ : ∃ acc, acc = joinX sep (L.take k) := ⟨_, rfl⟩
        have hal := HPL.out k
        rw [← hacc] at hal
        rw [← hacc]
        have HACC := Lib.hid hacc
        have HAL := Lib.hid hal
        obtain ⟨xk, hxk⟩ : ∃ xk, xk = x.f0 := ⟨_, rfl⟩
        rw [← hxk] at n0
        have HXK := Lib.hid hxk
        subst hA
        clear hI hT' hX hbx hIb hpb hp hm hLk hgg hpx hZ hZl hXl hacc hal hxk
        go_wp2_with fail
        refine hcall.mono ?_
        rintro e w2 ⟨rfl, hb2⟩
        have hI2 := HIb.out.below hb2
        have hpb2 := (hb2.block _ (by simp)).trans HPB.out
        obtain ⟨b0, b1, b2, b3, b4, b5, b6, b7⟩ := n_cells hpb2
        have HI2 := Lib.hid hI2
        clear hcall n0 n1 n2 n3 n4 n5 n6 n7 m0 m1 m2 m3 m4 m5 m6 m7 hb2 hpb2 hI2
        obtain ⟨n0, n1, n2, n3, n4, n5, n6, n7⟩ := n_cells HI2.out.blk
        rw [← HXK.out] at n0
        obtain ⟨bz, hbz⟩ : ∃ bz : Bool, bz = decide (pk = 3 ∨ (x.f0 ≠ 3 ∧ (pk = 2 ∨ pk = 0))) := ⟨_, rfl⟩
        have HBZ := Lib.hid hbz
        clear hbz
        go_upto_region 7 with fail
        go_cut [38] from 7 to 53 (fun s38 wx => s38 = .bool bz ∧ RfI w wx x (some ad) c)
        case first =>
          by_cases k3 : pk = 3
          · have HE : Hid (bz = true) := Lib.hid (by rw [HBZ.out]; exact decide_eq_true (.inl k3))
            subst k3
            go_wp2
            go_meet
            exact ⟨by rw [HE.out], HI2.out⟩
          have z3 : (pk == 3) = false := by simp [k3]
          by_cases kk : xk = 3
          · have HE : Hid (bz = false) := Lib.hid (by rw [HBZ.out]; exact decide_eq_false (by rintro (h | h); exact k3 h; exact h.1 (by rw [← HXK.out]; exact kk)))
            have zk : (xk != 3) = false := by simp [kk]
            clear k3 kk
            go_wp2
            go_meet
            exact ⟨by rw [HE.out], HI2.out⟩
          have zk : (xk != 3) = true := by simp [kk]
          have kk' : x.f0 ≠ 3 := fun e => kk (by rw [HXK.out]; exact e)
          by_cases k0 : pk = 0
          · have HE : Hid (bz = true) := Lib.hid (by rw [HBZ.out]; exact decide_eq_true (.inr ⟨kk', .inr k0⟩))
            subst k0
            clear k3 kk kk'
            go_wp2
            go_meet
            exact ⟨by rw [HE.out], HI2.out⟩
          have z0 : (pk == 0) = false := by simp [k0]
          by_cases k2 : pk = 2
          · have HE : Hid (bz = true) := Lib.hid (by rw [HBZ.out]; exact decide_eq_true (.inr ⟨kk', .inl k2⟩))
            subst k2
            clear k3 kk kk' k0 z0
            go_wp2
            go_meet
            exact ⟨by rw [HE.out], HI2.out⟩
          · have HE : Hid (bz = false) := Lib.hid (by rw [HBZ.out]; exact decide_eq_false (by rintro (h | h); exact k3 h; rcases h.2 with h | h; exact k2 h; exact k0 h))
            have z2 : (pk == 2) = false := by simp [k2]
            clear k3 kk kk' k0 k2
            go_wp2
            go_meet
            exact ⟨by rw [HE.out], HI2.out⟩
        case rest =>
          obtain ⟨rfl, hIc⟩ := hcut
          obtain ⟨n0, n1, n2, n3, n4, n5, n6, n7⟩ := n_cells hIc.blk
          rw [← HXK.out] at n0
          have HIC := Lib.hid hIc
          have hsn : joinX sep (L.take m) = if L.take k = [] then Z else acc ++ sep ++ Z := by rw [HM.out, take_next2 HLK.out, joinX_snoc, ← HACC.out]
          have htk : L.take k = [] ↔ k = 0 := by
            constructor
            · intro h
              have := congrArg List.length h
              rw [List.length_take, HLL.out, List.length_nil] at this
              omega
            · rintro rfl; rfl
          have hacc0 : k = 0 → acc = [] := fun h => by rw [HACC.out, h]; rfl
          have hZb : Z = if bz = true then 40 :: X ++ [41] else X := by
            rw [HPX.out, HBZ.out]
            by_cases h : pk = 3 ∨ (x.f0 ≠ 3 ∧ (pk = 2 ∨ pk = 0))
            · rw [if_pos h, if_pos (decide_eq_true h)]; rfl
            · rw [if_neg h, if_neg (by rw [decide_eq_false h]; decide)]
          have s4 : ∀ W, (AddS (tx acc) ⟨#[124]⟩).run Tryd.prog W = .ok (.string (tx (acc ++ [124]))) W := fun W => adds_run W acc [124] (by have := HAL.out; simp; omega)
          have HSN := Lib.hid hsn
          have HTK := Lib.hid htk
          have HA0 := Lib.hid hacc0
          have HZB := Lib.hid hZb
          clear hIc hsn htk hacc0 hZb
          cases bz with
          | true =>
            have hz : Z = 40 :: X ++ [41] := by rw [HZB.out, if_pos rfl]
            rw [← hz] at s2
            have s3 : ∀ W, (AddS (tx acc) (tx Z)).run Tryd.prog W = .ok (.string (tx (acc ++ Z))) W := fun W => adds_run W acc Z (by have := HAL.out; have := HZL.out; omega)
            have s5 : ∀ W, (AddS (tx (acc ++ [124])) (tx Z)).run Tryd.prog W = .ok (.string (tx (acc ++ [124] ++ Z))) W := fun W => adds_run W (acc ++ [124]) Z (by have := HAL.out; have := HZL.out; simp; omega)
            clear hz
            by_cases hk0 : k = 0
            · have hkz : ¬ (0 : Int) < (k : Int) := by omega
              have HE : Hid (joinX sep (L.take m) = acc ++ Z) := Lib.hid (by rw [HSN.out, if_pos (HTK.out.2 hk0), HA0.out hk0]; rfl)
              clear hk0
              go_wp2
              go_roundg (x.f2.length - m)
              case measure => have := HM.out; have := HG.out; omega
              case rel => exact ⟨m, rfl, by rw [HE.out], by have := HM.out; omega, Nat.le_refl _, HIC.out⟩
            · have hkz : (0 : Int) < (k : Int) := by omega
              have hne : ¬ L.take k = [] := fun h => hk0 (HTK.out.1 h)
              by_cases kk : xk = 3
              · have HE : Hid (joinX sep (L.take m) = acc ++ [124] ++ Z) := Lib.hid (by rw [HSN.out, if_neg hne, HSEP.out, if_pos (by rw [← HXK.out]; exact kk)])
                have zk : (xk == 3) = true := by simp [kk]
                clear hk0 hne kk
                go_wp2
                go_roundg (x.f2.length - m)
                case measure => have := HM.out; have := HG.out; omega
                case rel => exact ⟨m, rfl, by rw [HE.out, List.append_assoc]; rfl, by have := HM.out; omega, Nat.le_refl _, HIC.out⟩
              · have HE : Hid (joinX sep (L.take m) = acc ++ Z) := Lib.hid (by rw [HSN.out, if_neg hne, HSEP.out, if_neg (by rw [← HXK.out]; exact kk), List.append_nil])
                have zk : (xk == 3) = false := by simp [kk]
                clear hk0 hne kk
                go_wp2
                go_roundg (x.f2.length - m)
                case measure => have := HM.out; have := HG.out; omega
                case rel => exact ⟨m, rfl, by rw [HE.out], by have := HM.out; omega, Nat.le_refl _, HIC.out⟩
          | false =>
            have hz : Z = X := by rw [HZB.out, if_neg (by decide)]
            rw [← hz]
            have s3 : ∀ W, (AddS (tx acc) (tx Z)).run Tryd.prog W = .ok (.string (tx (acc ++ Z))) W := fun W => adds_run W acc Z (by have := HAL.out; have := HZL.out; omega)
            have s5 : ∀ W, (AddS (tx (acc ++ [124])) (tx Z)).run Tryd.prog W = .ok (.string (tx (acc ++ [124] ++ Z))) W := fun W => adds_run W (acc ++ [124]) Z (by have := HAL.out; have := HZL.out; simp; omega)
            clear hz
            by_cases hk0 : k = 0
            · have hkz : ¬ (0 : Int) < (k : Int) := by omega
              have HE : Hid (joinX sep (L.take m) = acc ++ Z) := Lib.hid (by rw [HSN.out, if_pos (HTK.out.2 hk0), HA0.out hk0]; rfl)
              clear hk0
              go_wp2
              go_roundg (x.f2.length - m)
              case measure => have := HM.out; have := HG.out; omega
              case rel => exact ⟨m, rfl, by rw [HE.out], by have := HM.out; omega, Nat.le_refl _, HIC.out⟩
            · have hkz : (0 : Int) < (k : Int) := by omega
              have hne : ¬ L.take k = [] := fun h => hk0 (HTK.out.1 h)
              by_cases kk : xk = 3
              · have HE : Hid (joinX sep (L.take m) = acc ++ [124] ++ Z) := Lib.hid (by rw [HSN.out, if_neg hne, HSEP.out, if_pos (by rw [← HXK.out]; exact kk)])
                have zk : (xk == 3) = true := by simp [kk]
                clear hk0 hne kk
                go_wp2
                go_roundg (x.f2.length - m)
                case measure => have := HM.out; have := HG.out; omega
                case rel => exact ⟨m, rfl, by rw [HE.out, List.append_assoc]; rfl, by have := HM.out; omega, Nat.le_refl _, HIC.out⟩
              · have HE : Hid (joinX sep (L.take m) = acc ++ Z) := Lib.hid (by rw [HSN.out, if_neg hne, HSEP.out, if_neg (by rw [← HXK.out]; exact kk), List.append_nil])
                have zk : (xk == 3) = false := by simp [kk]
                clear hk0 hne kk
                go_wp2
                go_roundg (x.f2.length - m)
                case measure => have := HM.out; have := HG.out; omega
                case rel => exact ⟨m, rfl, by rw [HE.out], by have := HM.out; omega, Nat.le_refl _, HIC.out⟩
      · have hlz : ¬ (k : Int) < (x.f2.length : Int) := by omega
        have htk : L.take k = L := by rw [List.take_of_length_le]; rw [HLL.out]; omega
        obtain ⟨acc, hacc⟩ : ∃ acc, acc = joinX sep (L.take k) := ⟨_, rfl⟩
        have hal := HPL.out k
        rw [← hacc] at hal
        rw [← hacc]
        rw [htk] at hacc
        have HACC := Lib.hid hacc
        have HAL := Lib.hid hal
        have HBEL := Lib.hid hI.bel
        clear hI htk hgg hkl hacc hal
        by_cases hk1 : x.f0 = 1
        · have hXe : showT x = setX (hasC x.f1) := by rw [HX.out, hk1]; rfl
          have hS := refset_any x.f1.f0 x.f1.f1 x.f1.f2 x.f1.f3 HCLS.out wr
          have HXE := Lib.hid hXe
          rw [hk1] at n0
          clear hXe hk1
          go_wp2_with fail
          refine hS.mono ?_
          rintro e w2 ⟨rfl, hb2⟩
          go_wp2
          go_ret
          exact ⟨by rw [HXE.out]; rfl, HBEL.out.trans (hb2.mono HBEL.out.size)⟩
        by_cases hk4 : x.f0 = 4
        · obtain ⟨e1, e2, e3, e4⟩ := H4.out hk4
          have hLn : L.length = 1 := by rw [HLL.out, e1]
          obtain ⟨Z, hZ⟩ : ∃ Z, L = [Z] := by
            match L, hLn with
            | [Z], _ => exact ⟨Z, rfl⟩
          have haz : acc = Z := by rw [HACC.out, hZ]; rfl
          have hXe : showT x = acc ++ timesX x.f3 x.f4 := by rw [HX.out, hk4, hZ, haz]; rfl
          have hTX : timesX x.f3 x.f4 = if x.f3 = 0 ∧ x.f4 = -1 then [42] else if x.f3 = 1 ∧ x.f4 = -1 then [43] else if x.f3 = 0 ∧ x.f4 = 1 then [63] else if x.f4 = -1 then [123] ++ decX x.f3 ++ [44, 125] else if x.f3 = x.f4 then [123] ++ decX x.f3 ++ [125] else [123] ++ decX x.f3 ++ [44] ++ decX x.f4 ++ [125] := rfl
          have hcell3 := n6
          have hcell4 := n7
          obtain ⟨lo, hlo⟩ : ∃ lo, lo = x.f3 := ⟨_, rfl⟩
          obtain ⟨hi, hhi⟩ : ∃ hi, hi = x.f4 := ⟨_, rfl⟩
          rw [← hlo] at n6 e2 e3 e4 hTX
          rw [← hhi] at n7 e4 hTX
          rw [← hlo, ← hhi] at hXe
          have HXE := Lib.hid hXe
          have HTX := Lib.hid hTX
          have HB4 := Lib.hid (HI.out.blk)
          rw [hk4] at n0
          have HI' := HI
          have sadd : ∀ (a b : Tx), a.length + b.length ≤ 1000000000 → ∀ W, (AddS (tx a) (tx b)).run Tryd.prog W = .ok (.string (tx (a ++ b))) W := fun a b h W => adds_run W a b h
          have SADD := Lib.hid sadd
          have HLO := Lib.hid hlo.symm
          have HHI := Lib.hid hhi.symm
          clear hcell3 hcell4 hXe hTX hZ haz hLn e1 hk1 sadd
          by_cases c1 : lo = 0 ∧ hi = -1
          · have HE : Hid (showT x = acc ++ [42]) := Lib.hid (by rw [HXE.out, HTX.out, if_pos c1])
            obtain ⟨rfl, rfl⟩ : lo = 0 ∧ hi = -1 := c1
            have hidx := idx2 ⟨#[42]⟩ ⟨#[43]⟩ wr
            have s1 := SADD.out acc [42] (by have := HAL.out; simp; omega)
            clear hlo hhi e2 e3 e4
            go_wp2
            go_ret
            exact ⟨by rw [HE.out]; rfl, HBEL.out⟩
          by_cases c2 : lo = 1 ∧ hi = -1
          · have HE : Hid (showT x = acc ++ [43]) := Lib.hid (by rw [HXE.out, HTX.out, if_neg c1, if_pos c2])
            obtain ⟨rfl, rfl⟩ : lo = 1 ∧ hi = -1 := c2
            have hidx := idx2b ⟨#[42]⟩ ⟨#[43]⟩ wr
            have s1 := SADD.out acc [43] (by have := HAL.out; simp; omega)
            clear hlo hhi e2 e3 e4 c1
            go_wp2
            go_ret
            exact ⟨by rw [HE.out]; rfl, HBEL.out⟩
          by_cases c3 : lo = 0 ∧ hi = 1
          · have HE : Hid (showT x = acc ++ [63]) := Lib.hid (by rw [HXE.out, HTX.out, if_neg c1, if_neg c2, if_pos c3])
            obtain ⟨rfl, rfl⟩ : lo = 0 ∧ hi = 1 := c3
            have s1 := SADD.out acc [63] (by have := HAL.out; simp; omega)
            clear hlo hhi e2 e3 e4 c1 c2
            go_wp2
            go_ret
            exact ⟨by rw [HE.out]; rfl, HBEL.out⟩
          have hd := refdig_any lo e2 e3
          have hdl := decX_len e2 e3
          obtain ⟨D, hD⟩ : ∃ D, D = decX lo := ⟨_, rfl⟩
          rw [← hD] at hd hdl
          obtain ⟨U, hU⟩ : ∃ U, U = acc ++ 123 :: D := ⟨_, rfl⟩
          have hUl : U.length ≤ 250000020 := by rw [hU, List.length_append, List.length_cons]; have := HAL.out; omega
          have s1 : ∀ W, (AddS ⟨#[123]⟩ (tx D)).run Tryd.prog W = .ok (.string (tx (123 :: D))) W := SADD.out [123] D (by simp; omega)
          have s2 : ∀ W, (AddS (tx acc) (tx (123 :: D))).run Tryd.prog W = .ok (.string (tx U)) W := fun W => by rw [hU]; exact SADD.out acc (123 :: D) (by have := HAL.out; rw [List.length_cons]; omega) W
          have HD := Lib.hid hD
          have HU := Lib.hid hU
          have HUL := Lib.hid hUl
          clear hD hU hdl hUl
          by_cases c4 : hi = -1
          · obtain ⟨V, hV⟩ : ∃ V, V = U ++ [44] := ⟨_, rfl⟩
            have s3 : ∀ W, (AddS (tx U) ⟨#[44]⟩).run Tryd.prog W = .ok (.string (tx V)) W := fun W => by rw [hV]; exact SADD.out U [44] (by have := HUL.out; simp; omega) W
            have s4 : ∀ W, (AddS (tx V) ⟨#[125]⟩).run Tryd.prog W = .ok (.string (tx (V ++ [125]))) W := SADD.out V [125] (by have := HUL.out; rw [hV]; simp; omega)
            have HE : Hid (showT x = V ++ [125]) := Lib.hid (by rw [HXE.out, HTX.out, if_neg c1, if_neg c2, if_neg c3, if_pos c4, hV, HU.out, HD.out]; simp)
            subst c4
            have z2 : ¬ lo < 2 := by omega
            have z0 : (lo == 0) = false := by simp; omega
            have zn : ((-1 : Int) != lo) = true := by simp; omega
            clear hlo hhi c1 c2 c3 e3 e4 hV
            go_wp2_with fail
            refine (hd _).mono ?_
            rintro e w2 ⟨rfl, hb2⟩
            have hI2 := HI'.out.below hb2
            clear n0 n1 n2 n3 n4 n5 n6 n7 hd
            obtain ⟨n0, n1, n2, n3, n4, n5, n6, n7⟩ := n_cells hI2.blk
            rw [HLO.out] at n6
            rw [HHI.out] at n7
            have HB2 := Lib.hid hI2.bel
            clear hI2 hb2
            go_wp2
            go_ret
            exact ⟨by rw [HE.out]; rfl, HB2.out⟩
          have zh : (hi == -1) = false := by simp [c4]
          have hge : lo ≤ hi ∧ hi ≤ 2147483647 := by rcases e4 with h | h; exact absurd h c4; exact h
          by_cases c5 : lo = hi
          · have s3 : ∀ W, (AddS (tx U) ⟨#[125]⟩).run Tryd.prog W = .ok (.string (tx (U ++ [125]))) W := SADD.out U [125] (by have := HUL.out; simp; omega)
            have HE : Hid (showT x = U ++ [125]) := Lib.hid (by rw [HXE.out, HTX.out, if_neg c1, if_neg c2, if_neg c3, if_neg c4, if_pos c5, HU.out, HD.out]; simp)
            have zc : (lo == 0 && hi == 1) = false := by rw [Bool.eq_false_iff]; intro h; simp at h; exact c3 h
            have zn : (hi != lo) = false := by simp [c5]
            have Z3 := Lib.hid c3
            have ZHI := Lib.hid c5
            clear hlo hhi c1 c2 c3 e3 e4 c4 c5 hge
            by_cases z0 : lo = 0
            · have z1 : (hi == 1) = false := by have := ZHI.out; simp; omega
              have z0' : (lo == 0) = true := by simp [z0]
              clear z0 zc
              go_wp2_with fail
              refine (hd _).mono ?_
              rintro e w2 ⟨rfl, hb2⟩
              have hI2 := HI'.out.below hb2
              clear n0 n1 n2 n3 n4 n5 n6 n7 hd
              obtain ⟨n0, n1, n2, n3, n4, n5, n6, n7⟩ := n_cells hI2.blk
              rw [HLO.out] at n6
              rw [HHI.out] at n7
              have HB2 := Lib.hid hI2.bel
              clear hI2 hb2
              go_wp2
              go_ret
              exact ⟨by rw [HE.out]; rfl, HB2.out⟩
            · have z0' : (lo == 0) = false := by simp [z0]
              clear z0 zc
              go_wp2_with fail
              refine (hd _).mono ?_
              rintro e w2 ⟨rfl, hb2⟩
              have hI2 := HI'.out.below hb2
              clear n0 n1 n2 n3 n4 n5 n6 n7 hd
              obtain ⟨n0, n1, n2, n3, n4, n5, n6, n7⟩ := n_cells hI2.blk
              rw [HLO.out] at n6
              rw [HHI.out] at n7
              have HB2 := Lib.hid hI2.bel
              clear hI2 hb2
              go_wp2
              go_ret
              exact ⟨by rw [HE.out]; rfl, HB2.out⟩
          · have hd2 := refdig_any hi (by omega) hge.2
            have hdl2 := decX_len (t := hi) (by omega) hge.2
            obtain ⟨D2, hD2⟩ : ∃ D, D = decX hi := ⟨_, rfl⟩
            rw [← hD2] at hd2 hdl2
            obtain ⟨V, hV⟩ : ∃ V, V = U ++ [44] := ⟨_, rfl⟩
            obtain ⟨V2, hV2⟩ : ∃ V2, V2 = V ++ D2 := ⟨_, rfl⟩
            have hVl : V.length ≤ 250000021 := by rw [hV]; have := HUL.out; simp; omega
            have hVl2 : V2.length ≤ 250000041 := by rw [hV2, List.length_append]; omega
            have s3 : ∀ W, (AddS (tx U) ⟨#[44]⟩).run Tryd.prog W = .ok (.string (tx V)) W := fun W => by rw [hV]; exact SADD.out U [44] (by have := HUL.out; simp; omega) W
            have s4 : ∀ W, (AddS (tx V) (tx D2)).run Tryd.prog W = .ok (.string (tx V2)) W := fun W => by rw [hV2]; exact SADD.out V D2 (by omega) W
            have s5 : ∀ W, (AddS (tx V2) ⟨#[125]⟩).run Tryd.prog W = .ok (.string (tx (V2 ++ [125]))) W := SADD.out V2 [125] (by simp; omega)
            have HE : Hid (showT x = V2 ++ [125]) := Lib.hid (by rw [HXE.out, HTX.out, if_neg c1, if_neg c2, if_neg c3, if_neg c4, if_neg c5, hV2, hV, HU.out, HD.out, hD2]; simp)
            have zn : (hi != lo) = true := by simp; omega
            have zg : 0 ≤ hi := by omega
            have Z3 := Lib.hid c3
            clear hlo hhi c1 c2 c3 e3 e4 c4 c5 hge hV hV2 hVl hVl2 hdl2 hD2
            by_cases z0 : lo = 0
            · have z1 : (hi == 1) = false := by simp; exact fun e => Z3.out ⟨z0, e⟩
              have z0' : (lo == 0) = true := by simp [z0]
              clear z0
              go_wp2_with fail
              refine (hd _).mono ?_
              rintro e w2 ⟨rfl, hb2⟩
              have hI2 := HI'.out.below hb2
              clear n0 n1 n2 n3 n4 n5 n6 n7 hd
              obtain ⟨n0, n1, n2, n3, n4, n5, n6, n7⟩ := n_cells hI2.blk
              rw [HLO.out] at n6
              rw [HHI.out] at n7
              have HI2 := Lib.hid hI2
              clear hI2 hb2
              go_wp2_with fail
              refine (hd2 _).mono ?_
              rintro e w3 ⟨rfl, hb3⟩
              have HB3 := Lib.hid (HI2.out.below hb3).bel
              clear n0 n1 n2 n3 n4 n5 n6 n7 hd2 hb3
              go_wp2
              go_ret
              exact ⟨by rw [HE.out]; rfl, HB3.out⟩
            · have z0' : (lo == 0) = false := by simp [z0]
              clear z0
              go_wp2_with fail
              refine (hd _).mono ?_
              rintro e w2 ⟨rfl, hb2⟩
              have hI2 := HI'.out.below hb2
              clear n0 n1 n2 n3 n4 n5 n6 n7 hd
              obtain ⟨n0, n1, n2, n3, n4, n5, n6, n7⟩ := n_cells hI2.blk
              rw [HLO.out] at n6
              rw [HHI.out] at n7
              have HI2 := Lib.hid hI2
              clear hI2 hb2
              go_wp2_with fail
              refine (hd2 _).mono ?_
              rintro e w3 ⟨rfl, hb3⟩
              have HB3 := Lib.hid (HI2.out.below hb3).bel
              clear n0 n1 n2 n3 n4 n5 n6 n7 hd2 hb3
              go_wp2
              go_ret
              exact ⟨by rw [HE.out]; rfl, HB3.out⟩
        · have hk14 : x.f0 = 0 ∨ x.f0 = 2 ∨ x.f0 = 3 := by omega
          have hXe : showT x = acc := by
            rw [HX.out, HACC.out]
            unfold nodeX
            rw [if_neg hk1]
            rcases hk14 with h | h | h
            · rw [if_neg (by omega), if_neg hk4, HSEP.out, if_neg (by omega)]
            · rw [if_neg (by omega), if_neg hk4, HSEP.out, if_neg (by omega)]
            · rw [if_pos h, HSEP.out, if_pos h]
          obtain ⟨xk, hxk⟩ : ∃ xk, xk = x.f0 := ⟨_, rfl⟩
          rw [← hxk] at n0
          have z1 : (xk == 1) = false := by rw [hxk]; simp [hk1]
          have z4 : (xk != 4) = true := by rw [hxk]; simp [hk4]
          have HXE := Lib.hid hXe
          clear hXe hk14 hk1 hk4 hk hxk
          go_wp2
          go_ret
          exact ⟨by rw [HXE.out]; rfl, HBEL.out⟩
theorem rtext_any (x : T) (hf : formedT x = true) (hw : okW x) (hc : cntT x ≤ 100000) (A : Option Addr) (c : Nat) (w : World) (hT : Tr w x A c) :
    Calls Tryd.prog 11 #[ndV x A c] w fun e w' => e = .returned (.string (tx (showT x))) ∧ Below w.heap.size w w' := rtext_n _ x (Nat.lt_succ_self _) hf hw hc A c w hT
end Go.Proofs.YtaohlmcgaggoeaaDoor.P
/- Layer 3: Text; the laws' walks. -/
namespace Go.Proofs.YtaohlmcgaggoeaaDoor.P
open Go.RowKit Go.Proofs.YtaohlmcgaggoeaaDoor Go.Proofs.YtaohlmcgaggoeaaDoorW.PrintWords Go.Proofs.YtaohlmcgaggoeaaDoorW.PrintLast Go.Proofs.YtaohlmcgaggoeaaDoorW.PrintMore
set_option linter.unusedVariables false
set_option linter.unusedSimpArgs false
set_option maxRecDepth 100000
/-! #### classes in what is read -/
theorem okC_cls (f : Nat → Bool) : okC ⟨clsOf f 0, clsOf f 1, clsOf f 2, clsOf f 3⟩ := fun j hj => by
  have h := w64_clsOf f
  rcases (show j = 0 ∨ j = 1 ∨ j = 2 ∨ j = 3 by omega) with rfl | rfl | rfl | rfl
  · exact h 0 (by omega)
  · exact h 1 (by omega)
  · exact h 2 (by omega)
  · exact h 3 (by omega)
theorem okC_zero : okC ⟨0, 0, 0, 0⟩ := fun j hj => by
  have h := w64_zero j hj
  rcases (show j = 0 ∨ j = 1 ∨ j = 2 ∨ j = 3 by omega) with rfl | rfl | rfl | rfl <;> exact h
abbrev Ow4 (l : List T) : Prop := ∀ t ∈ l, okW t
theorem ow_setN (f : Nat → Bool) : okW (setN f) := okW.mk _ _ _ _ _ (okC_cls f) fun p h => by cases h
theorem ow_zN : okW zN := okW.mk _ _ _ _ _ okC_zero fun p h => by cases h
theorem ow_one {t : T} (h : okW t) : Ow4 [t] := fun x hx => by rw [List.mem_singleton.1 hx]; exact h
theorem ow_app {l m : List T} (h : Ow4 l) (k : Ow4 m) : Ow4 (l ++ m) := fun t ht => by
  rcases List.mem_append.1 ht with ht | ht
  · exact h t ht
  · exact k t ht
theorem ow_oneN (k : Int) (l : List T) (h : Ow4 l) : okW (oneN k l) := by
  match l, h with
  | [], h => exact ow_zN
  | [x], h => exact h x (by simp)
  | x :: y :: r, h => exact okW.mk _ _ _ _ _ okC_zero h
theorem ow_timN (t : T) (lo hi : Int) (h : okW t) : okW (timN t lo hi) := okW.mk _ _ _ _ _ okC_zero (ow_one h)
def OwL (v : Lv) : Prop := Ow4 v.rows ∧ Ow4 v.row
structure OwM (m : Mc) : Prop where
  top : OwL m.top
  rest : ∀ v ∈ m.rest, OwL v
theorem OwL.nil : OwL ⟨[], []⟩ := ⟨fun t h => (by cases h), fun t h => (by cases h)⟩
theorem OwL.close {v : Lv} (h : OwL v) : OwL v.close := ⟨ow_app h.1 (ow_one (ow_oneN 2 _ h.2)), fun t h => (by cases h)⟩
theorem OwL.put {v : Lv} (h : OwL v) {t : T} (ht : okW t) : OwL (v.put t) := ⟨h.1, ow_app h.2 (ow_one ht)⟩
theorem OwL.done {v : Lv} (h : OwL v) : okW v.done := ow_oneN 3 _ h.close.1
theorem ow_last {l : List T} (h : Ow4 l) : okW (l.getLastD zN) := by
  rw [List.getLastD_eq_getLast?]
  cases hl : l.getLast? with
  | none => exact ow_zN
  | some t => exact h t (List.mem_of_getLast? hl)
theorem OwL.rep {v : Lv} (h : OwL v) (lo hi : Int) : OwL (v.rep lo hi) :=
  ⟨h.1, ow_app (fun t ht => h.2 t ((List.dropLast_sublist _).subset ht)) (ow_one (ow_timN _ lo hi (ow_last h.2)))⟩
theorem step_ow {s : ByteArray} {m : Mc} (h : OwM m) : OwM (stepM s m) := by
  obtain ⟨sc, top, rest⟩ := m
  obtain ⟨ht, hr⟩ := h
  dsimp only at ht hr
  have hi : ∀ {c : Prop} [Decidable c] {x y : Mc}, OwM x → OwM y → OwM (if c then x else y) := fun {c} _ {x y} h1 h2 => by
    split
    · exact h1
    · exact h2
  unfold stepM Mc.repeat_ Mc.put
  dsimp only
  refine hi ⟨OwL.nil, fun v hv => ?_⟩ (hi ?_ (hi ⟨ht.close, hr⟩ (hi (hi ⟨ht, hr⟩ ⟨ht.rep _ _, hr⟩) (hi (hi ⟨ht, hr⟩ ⟨ht.rep _ _, hr⟩) (hi (hi ⟨ht, hr⟩ ⟨ht.rep _ _, hr⟩) (hi (hi ⟨ht, hr⟩ ⟨ht.rep _ _, hr⟩) (hi ⟨ht.put (ow_setN _), hr⟩ (hi ⟨ht.put (ow_setN _), hr⟩ (hi ⟨ht.put (ow_setN _), hr⟩ (hi ⟨ht, hr⟩ ⟨ht.put (ow_setN _), hr⟩))))))))))
  · rcases List.mem_cons.1 hv with rfl | hv
    · exact ht
    · exact hr v hv
  · cases rest with
    | nil => exact ⟨ht, hr⟩
    | cons p r => exact ⟨(hr p (by simp)).put ht.done, fun v hv => hr v (List.mem_cons_of_mem _ hv)⟩
theorem run_ow {s : ByteArray} : ∀ (d : Nat) (m : Mc), s.size - m.sc.at_ ≤ d → OwM m → OwM (runF s m)
  | d, m, hd, h => by
    by_cases hg : goes s m.sc
    · rw [runF_go hg]
      cases d with
      | zero => have := hg.2; omega
      | succ d =>
        have h1 := (step_at hg).1
        exact run_ow d _ (by omega) (step_ow h)
    · rw [runF_stop hg]; exact h
theorem parse_okW {s : ByteArray} (h : (parseS s).e = 0) : okW (parseS s).t := by
  obtain ⟨_, _, _, h3, _⟩ := parse_ok h
  rw [← h3]
  exact (run_ow _ m0 (Nat.le_refl _) ⟨OwL.nil, fun v hv => (by cases hv)⟩).top.done
theorem parse_cnt2 {s : ByteArray} (h : (parseS s).e = 0) : cntT (parseS s).t ≤ 1000 := by
  obtain ⟨hs, _, _, h3, _⟩ := parse_ok h
  have h1 := run_bdN (s := s) s.size m0 (by show s.size - 0 ≤ _; omega) (Nat.zero_le _) m0_bdN
  have h2 := cnt_done (runF s m0).top
  have h4 := h1.1.2
  unfold tot at h4
  rw [← h3]
  omega
/-- What is written of a tree is read as it. -/
theorem show_back (x : T) (hf : formedT x = true) (hw : okW x) : parseS (tx (showT x)) = if (showT x).length > 400 ∨ wideT x then ⟨zN, 0, 3⟩ else ⟨x, 0, 0⟩ := by
  have := show_parse x hf hw (tx (showT x)) (at_all _) (tx_size _)
  rw [tx_size] at this
  exact this
/-! #### a byte's tree -/
theorem cntH_one (h : Nat → Bool) (b : Nat) : ∀ n, (∀ q, q < n → h q = decide (q = b)) → cntH h n = if b < n then 1 else 0
  | 0, _ => by rw [cntH, if_neg (by omega)]
  | n + 1, hh => by
    have ih := cntH_one h b n fun q hq => hh q (by omega)
    have hn := hh n (by omega)
    rw [cntH, ih, hn]
    by_cases e : n = b
    · subst e
      rw [if_neg (by omega), decide_eq_true rfl, if_pos rfl, if_pos (by omega)]
    · rw [decide_eq_false e, if_neg (show ¬ (false = true) by decide)]
      by_cases h1 : b < n
      · rw [if_pos h1, if_pos (by omega)]
      · rw [if_neg h1, if_neg (by omega)]
theorem hasC_cls (f : Nat → Bool) (q : Nat) (hq : q < 256) : hasC ⟨clsOf f 0, clsOf f 1, clsOf f 2, clsOf f 3⟩ q = f q := by
  rw [← has_clsOf f q]
  unfold hasC hasB
  rcases (show q / 64 = 0 ∨ q / 64 = 1 ∨ q / 64 = 2 ∨ q / 64 = 3 by omega) with e | e | e | e <;> rw [e] <;> rfl
theorem show_byte (b : Nat) (hb : b < 256) : showT (setN fun q => decide ((q : Int) = (b : Int))) = byteX b := by
  have hh : ∀ q, q < 256 → hasC (setN fun q => decide ((q : Int) = (b : Int))).f1 q = decide (q = b) := fun q hq => by
    show hasC ⟨clsOf _ 0, clsOf _ 1, clsOf _ 2, clsOf _ 3⟩ q = _
    rw [hasC_cls _ q hq, Bool.eq_iff_iff]
    simp only [decide_eq_true_eq]
    omega
  obtain ⟨h, hd⟩ : ∃ h, h = hasC (setN fun q => decide ((q : Int) = (b : Int))).f1 := ⟨_, rfl⟩
  rw [← hd] at hh
  have h1 : cntH h 256 = 1 := by rw [cntH_one h b 256 hh, if_pos hb]
  have h2 := only_one h h1
  have h3 : leastH h 256 0 = b := by
    have := h2.2 b hb
    rw [hh b hb, decide_eq_true rfl] at this
    exact (of_decide_eq_true this.symm).symm
  have : showT (setN fun q => decide ((q : Int) = (b : Int))) = setX (hasC (setN fun q => decide ((q : Int) = (b : Int))).f1) := by
    unfold setN
    rw [showT, showL]
    rfl
  rw [this, ← hd]
  unfold setX
  rw [h1, if_neg (by decide), if_pos rfl, h3]
theorem parse_byte (b : Nat) (hb : b < 256) : parseS (tx (byteX b)) = ⟨setN fun q => decide ((q : Int) = (b : Int)), 0, 0⟩ := by
  have := show_back (setN fun q => decide ((q : Int) = (b : Int))) (fo_setN _) (ow_setN _)
  rw [show_byte b hb] at this
  rw [this, if_neg]
  rintro (h | h)
  · have := byteX_le b; omega
  · exact setN_thin _ h
/-! #### Text -/
def textV (x : T) : Tx := if formedT x = true then showT x else []
theorem Text_any (x : T) (hw : okW x) (hc : cntT x ≤ 100000) (A : Option Addr) (c : Nat) (w : World) (hT : Tr w x A c) (h1 : Tab w) (h2 : Tabs w) :
    Calls Tryd.prog 10 #[ndV x A c] w fun e w' => e = .returned (.string (tx (textV x))) ∧ Below w.heap.size w w' := by
  have bx0 := Bx.new hT
  have hb0 : Below w.heap.size w (w.alloc (nO x A c)) := (Below.refl _ _).alloc (Nat.le_refl _) _
  have hfm := tr_formed x A c _ bx0.tr
  have htx := fun (hf : formedT x = true) W (hb : Below w.heap.size w W) => text_any x hf hw hc A c W (hT.below hb) (h1.below hb) (h2.below hb)
  obtain ⟨c0, c1, c2, c3, c4, c5, c6, c7⟩ := n_cells bx0.blk
  have HBX := Lib.hid bx0
  have HTX := Lib.hid htx
  unfold ndV at hfm
  clear hT h1 h2 hw hc htx bx0
  have HTV : Hid (textV x = if formedT x = true then showT x else []) := Lib.hid rfl
  unfold ndV
  unfold nO at *
  go_enter Tryd.func10, Tryd.ntmps10
  go_wp2_with fail
  refine hfm.mono ?_
  rintro e w2 ⟨rfl, hb2⟩
  have hb3 := ext_trans hb0 hb2
  have bx2 := HBX.out.later hb2
  obtain ⟨d0, d1, d2, d3, d4, d5, d6, d7⟩ := n_cells bx2.blk
  clear c0 c1 c2 c3 c4 c5 c6 c7 hfm bx2
  cases hf : formedT x with
  | false =>
    have HE : Hid (textV x = []) := Lib.hid (by rw [HTV.out, hf]; rfl)
    clear HTV hf
    go_wp2
    go_ret
    exact ⟨by rw [HE.out]; rfl, hb3⟩
  | true =>
    have hcall := HTX.out hf w2 hb3
    have HE : Hid (textV x = showT x) := Lib.hid (by rw [HTV.out, hf]; rfl)
    unfold ndV at hcall
    clear hf HTV
    go_wp2_with fail
    refine hcall.mono ?_
    rintro e w3 ⟨rfl, hb4⟩
    go_wp2
    go_ret
    exact ⟨by rw [HE.out]; rfl, ext_trans hb3 hb4⟩
theorem byteX_0 : byteX 0 = [92, 120, 48, 48] := by decide +kernel
theorem byteX_star : byteX 42 = [92, 42] := by decide +kernel
theorem awake3_any (w : World) : Calls Tryd.prog 7 #[] w fun e w' => e = .returned (.bool true) ∧ Below w.heap.size w w' := by
  have h1 := byte_any 0 (by decide)
  have h2 := byte_any 42 (by decide)
  rw [byteX_0] at h1
  rw [byteX_star] at h2
  go_enter Tryd.func7, Tryd.ntmps7
  go_wp2_with fail
  refine (h1 _).mono ?_
  rintro e w2 ⟨rfl, hb2⟩
  go_wp2_with fail
  refine (h2 _).mono ?_
  rintro e w3 ⟨rfl, hb3⟩
  go_wp2
  go_ret
  exact ⟨rfl, ext_trans hb2 hb3⟩
end Go.Proofs.YtaohlmcgaggoeaaDoor.P
/- Layer 3: the laws' walks. -/
namespace Go.Proofs.YtaohlmcgaggoeaaDoor.P
open Go.RowKit Go.Proofs.YtaohlmcgaggoeaaDoor Go.Proofs.YtaohlmcgaggoeaaDoorW.PrintWords Go.Proofs.YtaohlmcgaggoeaaDoorW.PrintLast Go.Proofs.YtaohlmcgaggoeaaDoorW.PrintMore
set_option linter.unusedVariables false
set_option linter.unusedSimpArgs false
set_option maxRecDepth 100000
section
variable (x : T) (A : Option Addr) (c : Nat) (w : World) (hT : Tr w x A c) (hw : okW x) (h1 : Tab w) (h2 : Tabs w)
include hT hw h1 h2
set_option maxHeartbeats 4000000 in
theorem tells_any : Calls Tryd.prog 3 #[ndV x A c] w fun e w' => e = .returned (.bool true) ∧ Below w.heap.size w w' := by
  obtain ⟨s, s1, s3, hsz⟩ := tr_size x A c 100 (by omega) (by omega)
  have bx0 := Bx.new hT
  have hb0 : Below w.heap.size w (w.alloc (nO x A c)) := (Below.refl _ _).alloc (Nat.le_refl _) _
  have HBX := Lib.hid bx0
  have HW := Lib.hid hw
  have HT := Lib.hid (And.intro h1 h2)
  have HTR := Lib.hid hT
  clear hT hw h1 h2 bx0
  unfold ndV at *
  unfold nO at *
  go_enter Tryd.func3, Tryd.ntmps3
  go_wp2_with fail
  refine (awake3_any _).mono ?_
  rintro e w1 ⟨rfl, hb1⟩
  have hb2 := ext_trans hb0 hb1
  have bx1 := HBX.out.later hb1
  obtain ⟨c0, c1, c2, c3, c4, c5, c6, c7⟩ := n_cells bx1.blk
  have hsz1 := hsz w1 bx1.tr
  have HB1 := Lib.hid bx1
  clear hsz hb1 hb0 bx1
  go_wp2_with fail
  refine hsz1.mono ?_
  rintro e w2 ⟨rfl, hb3⟩
  have hb4 := ext_trans hb2 hb3
  have bx2 := HB1.out.later hb3
  clear c0 c1 c2 c3 c4 c5 c6 c7 hsz1
  by_cases hbig : 100 < s
  · go_wp2_with fail
    refine (awake3_any _).mono ?_
    rintro e w3 ⟨rfl, hb5⟩
    go_wp2
    go_ret
    exact ⟨rfl, ext_trans hb4 hb5⟩
  have hcx : cntT x ≤ 100 := by have := s3 (.inl (by omega)); omega
  obtain ⟨c0, c1, c2, c3, c4, c5, c6, c7⟩ := n_cells bx2.blk
  have hfm := tr_refFormed x A c w2 (by omega) bx2.tr
  unfold ndV at hfm
  have HB2 := Lib.hid bx2
  have HC := Lib.hid hcx
  clear s1 s3 hb2 hb3 bx2 hcx
  go_wp2_with fail
  refine hfm.mono ?_
  rintro e w3 ⟨rfl, hb5⟩
  have hb6 := ext_trans hb4 hb5
  have bx3 := HB2.out.later hb5
  have HB6 := Lib.hid hb6
  clear c0 c1 c2 c3 c4 c5 c6 c7 hfm hb5 hb4
  obtain ⟨c0, c1, c2, c3, c4, c5, c6, c7⟩ := n_cells bx3.blk
  have htx := fun W (hb : Below w.heap.size w W) => Text_any x HW.out (by have := HC.out; omega) A c W (HTR.out.below hb) (HT.out.1.below hb) (HT.out.2.below hb)
  have HB3 := Lib.hid bx3
  unfold ndV at htx
  cases hf : formedT x with
  | false =>
    have hv : textV x = [] := by unfold textV; rw [hf]; rfl
    rw [hv] at htx
    have ht3 := htx w3 hb6
    clear htx hv hf bx3 hb6
    go_wp2_with fail
    refine ht3.mono ?_
    rintro e w4 ⟨rfl, hb7⟩
    go_wp2
    go_ret
    exact ⟨rfl, ext_trans HB6.out hb7⟩
  | true =>
    have hv : textV x = showT x := by unfold textV; rw [hf]; rfl
    rw [hv] at htx
    have q1 := fun d9 os => Calls.regrown_of (htx (Go.Sort.grow (redrawn w3 d9) os) (ext_trans hb6 (below_regrown w3 d9 os)))
    have q2 := fun d9 os => Calls.regrown_of (rtext_any x hf HW.out (by have := HC.out; omega) A c (Go.Sort.grow (redrawn w3 d9) os) (bx3.tr.below (below_regrown w3 d9 os)))
    unfold ndV at q2
    generalize showT x = X at q1 q2
    have kc0 := cell_regrown c0
    have kc1 := cell_regrown c1
    have kc2 := cell_regrown c2
    have kc3 := cell_regrown c3
    have kc4 := cell_regrown c4
    have kc5 := cell_regrown c5
    have kc6 := cell_regrown c6
    have kc7 := cell_regrown c7
    clear htx hv hf bx3 hb6
    go_wp2_with fail
    clear c0 c1 c2 c3 c4 c5 c6 c7
    refine wp_region_quiet_below (by kernel_rfl) (by kernel_rfl) ?_
    repeat (quiet_step (fail))
    quiet_step (exact q1 _ _)
    repeat (quiet_step (fail))
    quiet_step (exact q2 _ _)
    repeat (quiet_step (fail))
    refine wpQuiet_nil ?_
    intro _ hw'
    obtain ⟨⟨dq, osq⟩, hw''⟩ := hw'
    subst hw''
    go_wp2
    go_ret
    exact ⟨by simp, ext_trans HB6.out (below_regrown w3 dq osq)⟩
end
end Go.Proofs.YtaohlmcgaggoeaaDoor.P
/- Layer 3: ShowBack, ShowReads, ShowBytes: the walks. -/
namespace Go.Proofs.YtaohlmcgaggoeaaDoor.P
open Go.RowKit Go.Proofs.YtaohlmcgaggoeaaDoor Go.Proofs.YtaohlmcgaggoeaaDoorW.PrintWords Go.Proofs.YtaohlmcgaggoeaaDoorW.PrintLast Go.Proofs.YtaohlmcgaggoeaaDoorW.PrintMore
set_option linter.unusedVariables false
set_option linter.unusedSimpArgs false
set_option maxRecDepth 100000
theorem parse_k (s : ByteArray) (w : World) (x : T) (pl e : Int) (h : parseS s = ⟨x, pl, e⟩) : Calls Tryd.prog 12 #[.string s] w fun v w' => ∃ (A : Option Addr) (c : Nat),
    v = .returned (.tuple #[ndV x A c, .int .i64 pl, .int .i64 e]) ∧ Tr w' x A c ∧ Below w.heap.size w w' := by
  have := parse_any s w
  rw [h] at this
  exact this
section
variable (x : T) (A : Option Addr) (c : Nat) (w : World) (hT : Tr w x A c) (hw : okW x) (h1 : Tab w) (h2 : Tabs w)
include hT hw h1 h2
set_option maxHeartbeats 8000000 in
theorem back_any : Calls Tryd.prog 4 #[ndV x A c] w fun e w' => e = .returned (.bool true) ∧ Below w.heap.size w w' := by
  obtain ⟨s, s1, s3, hsz⟩ := tr_size x A c 100 (by omega) (by omega)
  have bx0 := Bx.new hT
  have hb0 : Below w.heap.size w (w.alloc (nO x A c)) := (Below.refl _ _).alloc (Nat.le_refl _) _
  have HBX := Lib.hid bx0
  have HW := Lib.hid hw
  have HT := Lib.hid (And.intro h1 h2)
  have HTR := Lib.hid hT
  clear hT hw h1 h2 bx0
  unfold ndV at *
  unfold nO at *
  go_enter Tryd.func4, Tryd.ntmps4
  go_wp2_with fail
  refine (awake3_any _).mono ?_
  rintro e w1 ⟨rfl, hb1⟩
  have hb2 := ext_trans hb0 hb1
  have bx1 := HBX.out.later hb1
  obtain ⟨c0, c1, c2, c3, c4, c5, c6, c7⟩ := n_cells bx1.blk
  have hsz1 := hsz w1 bx1.tr
  have HB1 := Lib.hid bx1
  clear hsz hb1 hb0 bx1
  go_wp2_with fail
  refine hsz1.mono ?_
  rintro e w2 ⟨rfl, hb3⟩
  have hb4 := ext_trans hb2 hb3
  have bx2 := HB1.out.later hb3
  clear c0 c1 c2 c3 c4 c5 c6 c7 hsz1
  by_cases hbig : 100 < s
  · go_wp2_with fail
    refine (awake3_any _).mono ?_
    rintro e w3 ⟨rfl, hb5⟩
    go_wp2
    go_ret
    exact ⟨rfl, ext_trans hb4 hb5⟩
  have hcx : cntT x ≤ 100 := by have := s3 (.inl (by omega)); omega
  obtain ⟨c0, c1, c2, c3, c4, c5, c6, c7⟩ := n_cells bx2.blk
  have hfm := tr_refFormed x A c w2 (by omega) bx2.tr
  unfold ndV at hfm
  have HB2 := Lib.hid bx2
  have HC := Lib.hid hcx
  clear s1 s3 hb2 hb3 bx2 hcx
  go_wp2_with fail
  refine hfm.mono ?_
  rintro e w3 ⟨rfl, hb5⟩
  have hb6 := ext_trans hb4 hb5
  have bx3 := HB2.out.later hb5
  have HB6 := Lib.hid hb6
  have HB3 := Lib.hid bx3
  clear c0 c1 c2 c3 c4 c5 c6 c7 hfm hb5 hb4 hb6 bx3
  cases hf : formedT x with
  | false =>
    clear hf
    go_wp2_with fail
    refine (awake3_any _).mono ?_
    rintro e w4 ⟨rfl, hb7⟩
    go_wp2
    go_ret
    exact ⟨rfl, ext_trans HB6.out hb7⟩
  | true =>
    have hv : textV x = showT x := by unfold textV; rw [hf]; rfl
    have htx := Text_any x HW.out (by have := HC.out; omega) A c w3 (HTR.out.below HB6.out) (HT.out.1.below HB6.out) (HT.out.2.below HB6.out)
    rw [hv] at htx
    unfold ndV at htx
    have hsb := show_back x hf HW.out
    obtain ⟨S, hS⟩ : ∃ S : ByteArray, S = tx (showT x) := ⟨_, rfl⟩
    have hSz : S.size = (showT x).length := by rw [hS, tx_size]
    rw [← hS] at htx hsb
    rw [← hSz] at hsb
    have HSB := Lib.hid hsb
    clear hv hf hsb hS hSz
    obtain ⟨c0, c1, c2, c3, c4, c5, c6, c7⟩ := n_cells HB3.out.blk
    go_wp2_with fail
    refine htx.mono ?_
    rintro e w4 ⟨rfl, hb7⟩
    have HB7 := Lib.hid (ext_trans HB6.out hb7)
    have HX4 := Lib.hid (HB3.out.later hb7)
    clear htx hb7 c0 c1 c2 c3 c4 c5 c6 c7
    by_cases hbad : S.size > 400 ∨ wideT x
    · have hp := parse_k S w4 zN 0 3 (by rw [HSB.out, if_pos hbad])
      have HBAD := Lib.hid hbad
      clear hbad
      unfold ndV zN at hp
      dsimp only at hp
      go_wp2_with fail
      refine hp.mono ?_
      rintro v w5 ⟨B, d, rfl, hT5, hb8⟩
      have HX5 := Lib.hid ((HX4.out.later hb8).alloc (.cells #[.int .i64 0, .int .u64 0, .int .u64 0, .int .u64 0, .int .u64 0, .slice B 0 d, .int .i64 0, .int .i64 0] 27))
      have hb9 := ext_trans HB7.out hb8
      have HB9 := Lib.hid (hb9.alloc hb9.size (.cells #[.int .i64 0, .int .u64 0, .int .u64 0, .int .u64 0, .int .u64 0, .slice B 0 d, .int .i64 0, .int .i64 0] 27))
      clear hp hT5 hb8 hb9
      by_cases hl : (400 : Int) < (S.size : Int)
      · go_wp2
        go_ret
        exact ⟨rfl, HB9.out⟩
      obtain ⟨c0, c1, c2, c3, c4, c5, c6, c7⟩ := n_cells HX5.out.blk
      have hdep := tr_refDepth x A c _ (by have := HC.out; omega) HX5.out.tr
      unfold ndV at hdep
      obtain ⟨dd, hdd⟩ : ∃ dd, dd = depthT x := ⟨_, rfl⟩
      rw [← hdd] at hdep
      have HDD := Lib.hid hdd
      clear hdd
      go_wp2_with fail
      refine hdep.mono ?_
      rintro e w6 ⟨rfl, hb10⟩
      have HX6 := Lib.hid (HX5.out.later hb10)
      have HB10 := Lib.hid (ext_trans HB9.out hb10)
      clear hdep hb10 c0 c1 c2 c3 c4 c5 c6 c7
      by_cases hd : (20 : Int) < (dd : Int)
      · go_wp2
        go_ret
        exact ⟨rfl, HB10.out⟩
      obtain ⟨c0, c1, c2, c3, c4, c5, c6, c7⟩ := n_cells HX6.out.blk
      have hpl := tr_refPlaces x A c _ (by have := HC.out; omega) HX6.out.tr
      unfold ndV at hpl
      obtain ⟨pp, hpp⟩ : ∃ pp, pp = placesT x := ⟨_, rfl⟩
      rw [← hpp] at hpl
      have hpz : (40 : Int) < (pp : Int) := by
        rcases HBAD.out with h | h | h
        · omega
        · have := HDD.out; omega
        · omega
      clear hpp
      go_wp2_with fail
      refine hpl.mono ?_
      rintro e w7 ⟨rfl, hb11⟩
      go_wp2
      go_ret
      exact ⟨rfl, ext_trans HB10.out hb11⟩
    · have hp := parse_k S w4 x 0 0 (by rw [HSB.out, if_neg hbad])
      have hd20 : ¬ (20 : Int) < (depthT x : Int) := fun h => hbad (.inr (.inl (by omega)))
      have hp40 : ¬ (40 : Int) < (placesT x : Int) := fun h => hbad (.inr (.inr (by omega)))
      have hl : ¬ (400 : Int) < (S.size : Int) := fun h => hbad (.inl (by omega))
      clear hbad
      unfold ndV at hp
      go_wp2_with fail
      refine hp.mono ?_
      rintro v w5 ⟨B, d, rfl, hT5, hb8⟩
      have hx5 := (HX4.out.later hb8).alloc (.cells #[.int .i64 x.f0, .int .u64 x.f1.f0, .int .u64 x.f1.f1, .int .u64 x.f1.f2, .int .u64 x.f1.f3, .slice B x.f2.length d, .int .i64 x.f3, .int .i64 x.f4] 27)
      have hy5 := Bx.new hT5
      unfold nO at hy5
      have hb9 := ext_trans HB7.out hb8
      have HB9 := Lib.hid (hb9.alloc hb9.size (.cells #[.int .i64 x.f0, .int .u64 x.f1.f0, .int .u64 x.f1.f1, .int .u64 x.f1.f2, .int .u64 x.f1.f3, .slice B x.f2.length d, .int .i64 x.f3, .int .i64 x.f4] 27))
      obtain ⟨c0, c1, c2, c3, c4, c5, c6, c7⟩ := n_cells hx5.blk
      have hdep := tr_refDepth x A c _ (by have := HC.out; omega) hx5.tr
      unfold ndV at hdep
      obtain ⟨dd, hdd⟩ : ∃ dd, dd = depthT x := ⟨_, rfl⟩
      rw [← hdd] at hdep hd20
      have HX5 := Lib.hid hx5
      have HY5 := Lib.hid hy5
      clear hp hT5 hb8 hb9 hdd hx5 hy5
      go_wp2_with fail
      refine hdep.mono ?_
      rintro e w6 ⟨rfl, hb10⟩
      have HX6 := Lib.hid (HX5.out.later hb10)
      have HY6 := Lib.hid (HY5.out.later hb10)
      have HB10 := Lib.hid (ext_trans HB9.out hb10)
      clear hdep hb10 c0 c1 c2 c3 c4 c5 c6 c7
      obtain ⟨c0, c1, c2, c3, c4, c5, c6, c7⟩ := n_cells HX6.out.blk
      have hpl := tr_refPlaces x A c _ (by have := HC.out; omega) HX6.out.tr
      unfold ndV at hpl
      obtain ⟨pp, hpp⟩ : ∃ pp, pp = placesT x := ⟨_, rfl⟩
      rw [← hpp] at hpl hp40
      clear hpp
      go_wp2_with fail
      refine hpl.mono ?_
      rintro e w7 ⟨rfl, hb11⟩
      have HX7 := Lib.hid (HX6.out.later hb11)
      have HY7 := Lib.hid (HY6.out.later hb11)
      have HB11 := Lib.hid (ext_trans HB10.out hb11)
      clear hpl hb11 c0 c1 c2 c3 c4 c5 c6 c7
      obtain ⟨c0, c1, c2, c3, c4, c5, c6, c7⟩ := n_cells HX7.out.blk
      obtain ⟨d0, d1, d2, d3, d4, d5, d6, d7⟩ := n_cells HY7.out.blk
      have hsm := tr_refSame x x A B c d w7 (by have := HC.out; omega) HX7.out.tr HY7.out.tr
      rw [same_refl] at hsm
      unfold ndV at hsm
      go_wp2_with fail
      refine hsm.mono ?_
      rintro e w8 ⟨rfl, hb12⟩
      go_wp2
      go_ret
      exact ⟨rfl, ext_trans HB11.out hb12⟩
end
set_option maxHeartbeats 8000000 in
theorem reads_any (s : ByteArray) (w : World) (h1 : Tab w) (h2 : Tabs w) : Calls Tryd.prog 5 #[.string s] w fun e w' => e = .returned (.bool true) ∧ Below w.heap.size w w' := by
  have HT := Lib.hid (And.intro h1 h2)
  clear h1 h2
  go_enter Tryd.func5, Tryd.ntmps5
  go_wp2_with fail
  refine (awake3_any _).mono ?_
  rintro e w1 ⟨rfl, hb1⟩
  by_cases hs : s.size > 400
  · have hz : (s.size : Int) > 400 := by omega
    go_wp2_with fail
    refine (awake3_any _).mono ?_
    rintro x w2 ⟨rfl, hb2⟩
    go_wp2
    go_ret
    exact ⟨rfl, ext_trans hb1 hb2⟩
  have hz : ¬ (s.size : Int) > 400 := by omega
  go_wp2_with fail
  refine (parse_any s w1).mono ?_
  rintro v w2 ⟨A, c, rfl, hT2, hb2⟩
  obtain ⟨P, hP⟩ : ∃ P, P = parseS s := ⟨_, rfl⟩
  rw [← hP] at hT2 ⊢
  have HP := Lib.hid hP
  obtain ⟨x, pl, e⟩ := P
  dsimp only at hT2 ⊢
  have hb3 := ext_trans hb1 hb2
  have bx2 := Bx.new hT2
  have HB4 := Lib.hid (hb3.alloc hb3.size (nO x A c))
  have HX2 := Lib.hid bx2
  unfold nO at HB4 HX2
  unfold ndV
  clear hP hb1 hb2 hb3 bx2 hT2 hs
  by_cases he : e = 0
  · subst he
    have hpe : (parseS s).e = 0 := by rw [← HP.out]
    have hfo := parse_formed hpe
    have hok := parse_okW hpe
    have hcn := parse_cnt2 hpe
    rw [← HP.out] at hfo hok hcn
    dsimp only at hfo hok hcn
    have hnw : ¬ wideT x := by
      have := (parse_ok hpe).2.2.2.2.1
      rw [← HP.out] at this
      exact this
    have hv : textV x = showT x := by unfold textV; rw [hfo]; rfl
    obtain ⟨c0, c1, c2, c3, c4, c5, c6, c7⟩ := n_cells HX2.out.blk
    have htx := Text_any x hok (by omega) A c _ HX2.out.tr (HT.out.1.below HB4.out) (HT.out.2.below HB4.out)
    rw [hv] at htx
    unfold ndV at htx
    have hsb := show_back x hfo hok
    obtain ⟨S, hS⟩ : ∃ S : ByteArray, S = tx (showT x) := ⟨_, rfl⟩
    have hSz : S.size = (showT x).length := by rw [hS, tx_size]
    rw [← hS] at htx hsb
    rw [← hSz] at hsb
    have HSB := Lib.hid hsb
    have HOK := Lib.hid hok
    have HFO := Lib.hid hfo
    have HCN := Lib.hid hcn
    have HNW := Lib.hid hnw
    have HS := Lib.hid hS
    have HV := Lib.hid hv
    clear hv hfo hsb hS hSz hok hcn hnw hpe
    go_wp2_with fail
    refine htx.mono ?_
    rintro e w3 ⟨rfl, hb5⟩
    have HB5 := Lib.hid (ext_trans HB4.out hb5)
    have HX3 := Lib.hid (HX2.out.later hb5)
    clear htx hb5 c0 c1 c2 c3 c4 c5 c6 c7
    by_cases hl : S.size > 400
    · have hlz : (400 : Int) < (S.size : Int) := by omega
      have hp := parse_k S w3 zN 0 3 (by rw [HSB.out, if_pos (.inl hl)])
      unfold ndV zN at hp
      dsimp only at hp
      clear hl
      go_wp2_with fail
      refine hp.mono ?_
      rintro v w5 ⟨B, d, rfl, hT5, hb8⟩
      have hb9 := ext_trans HB5.out hb8
      have HB9 := Lib.hid (hb9.alloc hb9.size (.cells #[.int .i64 0, .int .u64 0, .int .u64 0, .int .u64 0, .int .u64 0, .slice B 0 d, .int .i64 0, .int .i64 0] 27))
      go_wp2
      go_ret
      exact ⟨rfl, HB9.out⟩
    · have hlz : ¬ (400 : Int) < (S.size : Int) := by omega
      have hp := parse_k S w3 x 0 0 (by rw [HSB.out, if_neg (by rintro (h | h); exact hl h; exact HNW.out h)])
      unfold ndV at hp
      clear hl
      go_wp2_with fail
      refine hp.mono ?_
      rintro v w5 ⟨B, d, rfl, hT5, hb8⟩
      have hx5 := (HX3.out.later hb8).alloc (.cells #[.int .i64 x.f0, .int .u64 x.f1.f0, .int .u64 x.f1.f1, .int .u64 x.f1.f2, .int .u64 x.f1.f3, .slice B x.f2.length d, .int .i64 x.f3, .int .i64 x.f4] 27)
      have hy5 := Bx.new hT5
      unfold nO at hy5
      have hb9 := ext_trans HB5.out hb8
      have HB9 := Lib.hid (hb9.alloc hb9.size (.cells #[.int .i64 x.f0, .int .u64 x.f1.f0, .int .u64 x.f1.f1, .int .u64 x.f1.f2, .int .u64 x.f1.f3, .slice B x.f2.length d, .int .i64 x.f3, .int .i64 x.f4] 27))
      obtain ⟨c0, c1, c2, c3, c4, c5, c6, c7⟩ := n_cells hx5.blk
      obtain ⟨d0, d1, d2, d3, d4, d5, d6, d7⟩ := n_cells hy5.blk
      have hsm := tr_refSame x x A B c d _ (by have := HCN.out; omega) hx5.tr hy5.tr
      rw [same_refl] at hsm
      unfold ndV at hsm
      have HY5 := Lib.hid hy5
      clear hp hT5 hb8 hb9 hx5 hy5
      go_wp2_with fail
      refine hsm.mono ?_
      rintro e w8 ⟨rfl, hb12⟩
      have HB10 := Lib.hid (ext_trans HB9.out hb12)
      have HY6 := Lib.hid (HY5.out.later hb12)
      clear hsm hb12 c0 c1 c2 c3 c4 c5 c6 c7 d0 d1 d2 d3 d4 d5 d6 d7
      obtain ⟨d0, d1, d2, d3, d4, d5, d6, d7⟩ := n_cells HY6.out.blk
      have htx := Text_any x HOK.out (by have := HCN.out; omega) B d w8 HY6.out.tr (HT.out.1.below HB10.out) (HT.out.2.below HB10.out)
      rw [HV.out, ← HS.out] at htx
      unfold ndV at htx
      go_wp2_with fail
      refine htx.mono ?_
      rintro e w9 ⟨rfl, hb13⟩
      go_wp2
      go_ret
      exact ⟨by simp, ext_trans HB10.out hb13⟩
  · have hz1 : (e != 0) = true := by simp [he]
    clear he
    go_wp2
    go_ret
    exact ⟨rfl, HB4.out⟩
set_option maxHeartbeats 8000000 in
theorem bytes_any (b : Nat) (hb : b < 256) (w : World) (h1 : Tab w) (h2 : Tabs w) : Calls Tryd.prog 6 #[.int .u8 (b : Int)] w fun e w' => e = .returned (.bool true) ∧ Below w.heap.size w w' := by
  have HT := Lib.hid (And.intro h1 h2)
  have hby := byte_any b hb w
  have hrb := refbyte_any b hb
  have hpb := parse_byte b hb
  have hsb := show_byte b hb
  have hok := ow_setN (fun q => decide ((q : Int) = (b : Int)))
  have hfo := fo_setN (fun q => decide ((q : Int) = (b : Int)))
  have hcn := cnt_setN (fun q => decide ((q : Int) = (b : Int)))
  have hse : setN (fun q => decide ((q : Int) = (b : Int))) = ⟨1, ⟨clsOf (fun q => decide ((q : Int) = (b : Int))) 0, clsOf (fun q => decide ((q : Int) = (b : Int))) 1, clsOf (fun q => decide ((q : Int) = (b : Int))) 2, clsOf (fun q => decide ((q : Int) = (b : Int))) 3⟩, [], 0, 0⟩ := rfl
  obtain ⟨k0, hk0⟩ : ∃ k, k = clsOf (fun q => decide ((q : Int) = (b : Int))) 0 := ⟨_, rfl⟩
  obtain ⟨k1, hk1⟩ : ∃ k, k = clsOf (fun q => decide ((q : Int) = (b : Int))) 1 := ⟨_, rfl⟩
  obtain ⟨k2, hk2⟩ : ∃ k, k = clsOf (fun q => decide ((q : Int) = (b : Int))) 2 := ⟨_, rfl⟩
  obtain ⟨k3, hk3⟩ : ∃ k, k = clsOf (fun q => decide ((q : Int) = (b : Int))) 3 := ⟨_, rfl⟩
  rw [← hk0, ← hk1, ← hk2, ← hk3] at hse
  rw [hse] at hpb hsb hok hfo hcn
  obtain ⟨S, hS⟩ : ∃ S : ByteArray, S = tx (byteX b) := ⟨_, rfl⟩
  rw [← hS] at hby hrb hpb
  have hv : tx (textV ⟨1, ⟨k0, k1, k2, k3⟩, [], 0, 0⟩) = S := by unfold textV; rw [if_pos hfo, hsb, hS]
  have hwb : IntKind.i64.wrap (b : Int) = (b : Int) := by rw [IntKind.wrap_i64]; omega
  have HV := Lib.hid hv
  have HP := Lib.hid hpb
  have HOK := Lib.hid hok
  have HCN := Lib.hid hcn
  clear h1 h2 hpb hsb hok hfo hcn hse hk0 hk1 hk2 hk3 hS hv
  go_enter Tryd.func6, Tryd.ntmps6
  go_wp2_with fail
  refine hby.mono ?_
  rintro e w1 ⟨rfl, hb1⟩
  have hp := parse_k S w1 _ _ _ HP.out
  unfold ndV at hp
  dsimp only [List.length_nil] at hp
  clear hby
  go_wp2_with fail
  refine hp.mono ?_
  rintro v w2 ⟨A, c, rfl, hT2, hb2⟩
  have hb3 := ext_trans hb1 hb2
  have bx2 := Bx.new hT2
  have HB4 := Lib.hid (hb3.alloc hb3.size (nO ⟨1, ⟨k0, k1, k2, k3⟩, [], 0, 0⟩ A c))
  have HX2 := Lib.hid bx2
  unfold nO at HB4 HX2
  dsimp only [List.length_nil] at HB4 HX2
  clear hp hb1 hb2 hb3 bx2 hT2
  go_wp2_with fail
  refine (awake3_any _).mono ?_
  rintro e w3 ⟨rfl, hb5⟩
  have HB5 := Lib.hid (ext_trans HB4.out hb5)
  have HX3 := Lib.hid (HX2.out.later hb5)
  clear hb5
  go_wp2_with fail
  refine (hrb _).mono ?_
  rintro e w4 ⟨rfl, hb6⟩
  have HB6 := Lib.hid (ext_trans HB5.out hb6)
  have HX4 := Lib.hid (HX3.out.later hb6)
  clear hb6 hrb
  obtain ⟨c0, c1, c2, c3, c4, c5, c6, c7⟩ := n_cells HX4.out.blk
  dsimp only [List.length_nil] at c0 c1 c2 c3 c4 c5 c6 c7
  have hsm := tr_refSame ⟨1, ⟨k0, k1, k2, k3⟩, [], 0, 0⟩ ⟨1, ⟨k0, k1, k2, k3⟩, [], 0, 0⟩ A none c 0 w4 (by have := HCN.out; omega) HX4.out.tr ⟨Kd.C_nil _ _, Nat.le_refl _⟩
  rw [same_refl] at hsm
  unfold ndV at hsm
  dsimp only [List.length_nil] at hsm
  go_wp2_with fail
  refine hsm.mono ?_
  rintro e w5 ⟨rfl, hb7⟩
  have HB7 := Lib.hid (ext_trans HB6.out hb7)
  have HX5 := Lib.hid (HX4.out.later hb7)
  clear hb7 hsm c0 c1 c2 c3 c4 c5 c6 c7
  obtain ⟨c0, c1, c2, c3, c4, c5, c6, c7⟩ := n_cells HX5.out.blk
  dsimp only [List.length_nil] at c0 c1 c2 c3 c4 c5 c6 c7
  have htx := Text_any _ HOK.out (by have := HCN.out; omega) A c w5 HX5.out.tr (HT.out.1.below HB7.out) (HT.out.2.below HB7.out)
  rw [HV.out] at htx
  unfold ndV at htx
  dsimp only [List.length_nil] at htx
  go_wp2_with fail
  refine htx.mono ?_
  rintro e w6 ⟨rfl, hb8⟩
  go_wp2
  go_ret
  exact ⟨rfl, ext_trans HB7.out hb8⟩
end Go.Proofs.YtaohlmcgaggoeaaDoor.P
