/- The reference's Text. -/
import Derived.Test.YtbdgfbkhplhpkaaDoorTxP
namespace Go.Proofs.YtbdgfbkhplhpkaaDoor
open Go.RowKit
set_option linter.unusedVariables false
set_option linter.unusedSimpArgs false
/-- A part of a string, under a name of its own. -/
def SlcS (t : TypeId) (x : Value) (a b m : Option Value) : Sem Value := Instr.slice t x a b m
theorem slcS (t : TypeId) (x : Value) (a b m : Option Value) (h : t = 9) : Instr.slice t x a b m = SlcS t x a b m := rfl
attribute [local go_sem ↓] addS

theorem join_snoc (xs : List (List UInt8)) (y sep : List UInt8) : Lib.join (xs ++ [y]) sep = (if xs = [] then [] else Lib.join xs sep ++ sep) ++ y := by
  cases xs with
  | nil => simp [Lib.join_one]
  | cons x xs =>
    rw [List.cons_append, Lib.join_cons, Lib.join_cons, if_neg (by simp)]
    simp [Lib.joinTail]
/-- The first k runs' text. -/
def rtx (rs : List Rn) (k : Nat) : List UInt8 := Lib.join ((rs.take k).map piece) [32]
theorem rtx_zero (rs : List Rn) : rtx rs 0 = [] := rfl
theorem rtx_succ {rs : List Rn} {k : Nat} (hk : k < rs.length) : rtx rs (k + 1) = (if k = 0 then [] else rtx rs k ++ [32]) ++ piece rs[k] := by
  unfold rtx
  rw [show rs.take (k + 1) = rs.take k ++ [rs[k]] by simp, List.map_append, List.map_cons, List.map_nil, join_snoc]
  congr 1
  by_cases h : k = 0
  · subst h; simp
  · rw [if_neg h, if_neg]
    intro e
    have := congrArg List.length e
    rw [List.length_map, List.length_take] at this
    simp only [List.length_nil] at this
    omega
theorem rtx_len (rs : List Rn) (hf : ∀ r ∈ rs, (piece r).length ≤ 30) : ∀ k, k ≤ rs.length → (rtx rs k).length ≤ 31 * k
  | 0, _ => by simp [rtx_zero]
  | k + 1, h => by
    have h1 := rtx_len rs hf k (by omega)
    have h2 := hf rs[k] (List.getElem_mem (by omega))
    rw [rtx_succ (by omega), List.length_append]
    have h3 : (if k = 0 then [] else rtx rs k ++ [32]).length ≤ (rtx rs k).length + 1 := by
      split
      · simp
      · rw [List.length_append]; exact Nat.le_refl _
    omega
def hexS : ByteArray := ⟨#[48, 49, 50, 51, 52, 53, 54, 55, 56, 57, 97, 98, 99, 100, 101, 102]⟩
theorem ex_hex (q : Nat) (hq : q < 16) : hexS.extract q (q + 1) = ⟨#[hx q]⟩ := by
  match q, hq with
  | 0, _ => decide
  | 1, _ => decide
  | 2, _ => decide
  | 3, _ => decide
  | 4, _ => decide
  | 5, _ => decide
  | 6, _ => decide
  | 7, _ => decide
  | 8, _ => decide
  | 9, _ => decide
  | 10, _ => decide
  | 11, _ => decide
  | 12, _ => decide
  | 13, _ => decide
  | 14, _ => decide
  | 15, _ => decide
  | q + 16, hq => omega
set_option maxHeartbeats 2000000 in
theorem refText_any (rs : List Rn) (hf : RunsF rs) (A : Option Addr) (c : Nat) (w : World) (hs : Rs w A c rs) :
    Calls Tryd.prog 16 #[.slice A rs.length c] w fun e w' => e = .returned (.string ⟨(Lib.join (rs.map piece) [32]).toArray⟩) ∧ Below w.heap.size w w' := by
  have hcap := hs.cap
  have hmax := hs.max
  have hr200 := hf.2
  have HF := Lib.hid hf
  have hpl : ∀ r ∈ rs, (piece r).length ≤ 30 := fun r hr => by
    have h1 := mem_tot rs (allG_mem hf.1) r hr
    have h2 := sumT_bound hf.1
    exact piece_len r (allG_mem hf.1 r hr) (by unfold tot at h1; omega)
  have HL := Lib.hid (rtx_len rs hpl)
  clear hf hpl
  go_enter Tryd.func16, Tryd.ntmps16
  go_wp2
  go_loopw [3, 5] (fun s i wr => ∃ k : Nat, k ≤ rs.length ∧ i = .int .i64 k ∧ s = .string ⟨(rtx rs k).toArray⟩ ∧ Below w.heap.size w wr) (fun _ i _ => rs.length - (intOf i).toNat)
  case atStart => exact ⟨0, by omega, rfl, rfl, Below.refl _ _⟩
  case round =>
    obtain ⟨k, hk, rfl, rfl, hb⟩ := hrel
    by_cases hlt : k < rs.length
    · have hlz : (k : Int) < (rs.length : Int) := by omega
      obtain ⟨ad, rfl, k0, k1⟩ := (hs.below hb).at_ hlt
      have hg := HF.out.1 k hlt
      have hk1 := sumT_bound (rs := rs) (k := k) fun j hj => HF.out.1 j (by omega)
      unfold Good at hg
      obtain ⟨t, ht⟩ : ∃ t : Nat, rT rs k = (t : Int) := ⟨(rT rs k).toNat, by omega⟩
      have ht1 : 1 ≤ t := by omega
      have ht2 : t ≤ 4611686018427387904 := by omega
      rw [ht] at k1
      have HTE := Lib.hid ht
      clear hg hk1 ht
      obtain ⟨b, hb0⟩ : ∃ b, b = rB rs k := ⟨_, rfl⟩
      rw [← hb0] at k0
      obtain ⟨X, hX⟩ : ∃ X, X = (b.toNat : Int) := ⟨_, rfl⟩
      rw [← hX] at k0
      have hX1 : 0 ≤ X := by omega
      have hX2 : X < 256 := by have := b.toNat_lt; omega
      obtain ⟨S, hS⟩ : ∃ S, S = rtx rs k := ⟨_, rfl⟩
      have hSl : S.length ≤ 31 * k := by rw [hS]; exact HL.out k hk
      rw [← hS]
      have hsp := fun W => adds_run (P := Tryd.prog) W S [32] (by simp; omega)
      have HS := Lib.hid hS
      obtain ⟨d1, hd1⟩ : ∃ d1, d1 = hx (b.toNat / 16) := ⟨_, rfl⟩
      obtain ⟨d2, hd2⟩ : ∃ d2, d2 = hx (b.toNat % 16) := ⟨_, rfl⟩
      have hx1 : (⟨#[48, 49, 50, 51, 52, 53, 54, 55, 56, 57, 97, 98, 99, 100, 101, 102]⟩ : ByteArray).extract (X / 16).toNat (X / 16 + 1).toNat = ⟨[d1].toArray⟩ := by
        have := ex_hex (b.toNat / 16) (by have := b.toNat_lt; omega)
        rw [show (X / 16).toNat = b.toNat / 16 by omega, show (X / 16 + 1).toNat = b.toNat / 16 + 1 by omega, hd1]
        exact this
      have hx2 : (⟨#[48, 49, 50, 51, 52, 53, 54, 55, 56, 57, 97, 98, 99, 100, 101, 102]⟩ : ByteArray).extract (X % 16).toNat (X % 16 + 1).toNat = ⟨[d2].toArray⟩ := by
        have := ex_hex (b.toNat % 16) (by omega)
        rw [show (X % 16).toNat = b.toNat % 16 by omega, show (X % 16 + 1).toNat = b.toNat % 16 + 1 by omega, hd2]
        exact this
      have hadd := fun W => adds_run (P := Tryd.prog) W [d1] [d2] (by simp)
      rw [← hx1, ← hx2] at hadd
      simp only [List.singleton_append] at hadd
      have HD1 := Lib.hid hd1
      have HD2 := Lib.hid hd2
      have HB0 := Lib.hid hb0
      have HX := Lib.hid hX
      have hpl2 := dec_len t ht2
      have hdg := digits_any t ht2
      obtain ⟨D, hD⟩ : ∃ D, D = Lib.decDigits t := ⟨_, rfl⟩
      rw [← hD] at hpl2 hdg
      have ha1 := fun W => adds_run (P := Tryd.prog) W [42] D (by simp; omega)
      simp only [List.singleton_append] at ha1
      have HDD := Lib.hid hD
      have hstep : ∀ S1 : List UInt8, S1 = (if k = 0 then [] else S ++ [32]) → rtx rs (k + 1) = S1 ++ ([d1, d2] ++ (if t = 1 then [] else 42 :: D)) := by
        intro S1 h1
        rw [rtx_succ hlt, ← hS, h1]
        have e1 := hb0
        have e2 := HTE.out
        simp only [rB, rT, List.getD_eq_getElem?_getD, List.getElem?_eq_getElem hlt, Option.getD_some] at e1 e2
        unfold piece
        rw [← e1, e2, ← hd1, ← hd2]
        congr 1
        by_cases h : t = 1
        · rw [if_pos h, if_pos (by omega)]; rfl
        · rw [if_neg h, if_neg (by omega), hD]; rfl
      have HST := Lib.hid hstep
      clear hb0 hX hS hd1 hd2 hD hstep hx1 hx2
      by_cases hk0 : 0 < k
      · have hkz : (k : Int) > 0 := by omega
        have hS1 := HST.out (S ++ [32]) (by rw [if_neg (by omega)])
        have hc2 := fun W => adds_run (P := Tryd.prog) W (S ++ [32]) [d1, d2] (by simp; omega)
        obtain ⟨S2, hS2⟩ : ∃ S2, S2 = (S ++ [32]) ++ [d1, d2] := ⟨_, rfl⟩
        rw [← List.append_assoc, ← hS2] at hS1
        rw [← hS2] at hc2
        have hS2l : S2.length ≤ 100000 := by rw [hS2]; simp; omega
        have hc3 := fun W => adds_run (P := Tryd.prog) W S2 (42 :: D) (by simp; omega)
        have HS1 := Lib.hid hS1
        clear hS2 hS1
        by_cases hone : t = 1
        · have HN : Hid (rtx rs (k + 1) = S2) := by show _ = _; rw [HS1.out, if_pos hone, List.append_nil]
          have h1z : ((t : Int) == 1) = true := by rw [beq_iff_eq]; omega
          have h1y : (t : Int) = 1 := by omega
          clear hone
          go_wp2_with fail
          go_region
          all_goals
            go_wp2_with fail
            go_roundw
            case rel => exact ⟨k + 1, by omega, by go_num, by rw [HN.out], hb.drew⟩
            case measure => simp [intOf]; omega
        · have HN : Hid (rtx rs (k + 1) = S2 ++ 42 :: D) := by show _ = _; rw [HS1.out, if_neg hone]
          have h1z : ((t : Int) == 1) = false := by rw [beq_eq_false_iff_ne]; omega
          have h1y : ¬ (t : Int) = 1 := by omega
          clear hone
          go_wp2_with fail
          go_region
          all_goals
            go_wp2_with fail
            refine (hdg _).mono ?_
            rintro e w4 ⟨rfl, hb4⟩
            have hb5 := ext_trans hb.drew hb4
            go_wp2_with fail
            go_roundw
            case rel => exact ⟨k + 1, by omega, by go_num, by rw [HN.out], hb5⟩
            case measure => simp [intOf]; omega
      · have hkz : ¬ (k : Int) > 0 := by omega
        have hS0 : S = [] := by
          rw [HS.out]
          obtain rfl : k = 0 := by omega
          rfl
        have hS1 := HST.out S (by rw [if_pos (by omega), hS0])
        have hc2 := fun W => adds_run (P := Tryd.prog) W S [d1, d2] (by simp; omega)
        obtain ⟨S2, hS2⟩ : ∃ S2, S2 = S ++ [d1, d2] := ⟨_, rfl⟩
        rw [← List.append_assoc, ← hS2] at hS1
        rw [← hS2] at hc2
        have hS2l : S2.length ≤ 100000 := by rw [hS2]; simp; omega
        have hc3 := fun W => adds_run (P := Tryd.prog) W S2 (42 :: D) (by simp; omega)
        have HS1 := Lib.hid hS1
        clear hS2 hS1 hS0
        by_cases hone : t = 1
        · have HN : Hid (rtx rs (k + 1) = S2) := by show _ = _; rw [HS1.out, if_pos hone, List.append_nil]
          have h1z : ((t : Int) == 1) = true := by rw [beq_iff_eq]; omega
          have h1y : (t : Int) = 1 := by omega
          clear hone
          go_wp2_with fail
          go_region
          all_goals
            go_wp2_with fail
            go_roundw
            case rel => exact ⟨k + 1, by omega, by go_num, by rw [HN.out], hb.drew⟩
            case measure => simp [intOf]; omega
        · have HN : Hid (rtx rs (k + 1) = S2 ++ 42 :: D) := by show _ = _; rw [HS1.out, if_neg hone]
          have h1z : ((t : Int) == 1) = false := by rw [beq_eq_false_iff_ne]; omega
          have h1y : ¬ (t : Int) = 1 := by omega
          clear hone
          go_wp2_with fail
          go_region
          all_goals
            go_wp2_with fail
            refine (hdg _).mono ?_
            rintro e w4 ⟨rfl, hb4⟩
            have hb5 := ext_trans hb.drew hb4
            go_wp2_with fail
            go_roundw
            case rel => exact ⟨k + 1, by omega, by go_num, by rw [HN.out], hb5⟩
            case measure => simp [intOf]; omega
    · obtain rfl : k = rs.length := by omega
      have hlz : ¬ (rs.length : Int) < (rs.length : Int) := by omega
      have he : rtx rs rs.length = Lib.join (rs.map piece) [32] := by unfold rtx; rw [List.take_length]
      rw [he]
      go_wp2
      go_ret
      exact ⟨rfl, hb⟩
end Go.Proofs.YtbdgfbkhplhpkaaDoor
