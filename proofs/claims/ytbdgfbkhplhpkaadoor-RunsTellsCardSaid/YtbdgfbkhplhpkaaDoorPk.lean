/- The walks of both Packs. -/
import Derived.Test.YtbdgfbkhplhpkaaDoorPkP
namespace Go.Proofs.YtbdgfbkhplhpkaaDoor
open Go.RowKit
set_option linter.unusedVariables false
set_option linter.unusedSimpArgs false
attribute [local go_sem ↓] appS

theorem bcs_get (l : List UInt8) (k : Nat) (h : k < (bcs l).length) (h' : k < l.length) : (bcs l)[k] = .int .u8 ((l[k].toNat : Nat) : Int) := by simp [bcs]
theorem sl_byte {w : World} {A : Option Addr} {c : Nat} {l : List UInt8} (h : Sl w A c (bcs l)) {k : Nat} (hk : k < l.length) : ∃ ad, A = some ad ∧ w.cell? (ad.add k) = some (.int .u8 (l[k].toNat : Int)) := by
  obtain ⟨ad, e, hc⟩ := h.at_ (k := k) (by rw [bcs_length]; exact hk)
  rw [bcs_get l k _ hk] at hc
  exact ⟨ad, e, hc⟩
theorem sl_below {w w' : World} {A : Option Addr} {c : Nat} {xs : List Value} (h : Sl w A c xs) (hb : Below w.heap.size w w') : Sl w' A c xs :=
  h.keep fun a u hu _ => (hb.cell (World.block_lt_of_cell? w _ hu)).trans hu

set_option maxHeartbeats 1000000 in
theorem pack_any (l : List UInt8) (hl : l.length ≤ 1000) (A : Option Addr) (c : Nat) (w : World) (hs : Sl w A c (bcs l)) :
    Calls Tryd.prog 17 #[.slice A l.length c] w fun e w' =>
      (200 < (packR l).length ∧ e = .returned (.tuple #[.slice none 0 0, .int .i64 3]) ∨ (packR l).length ≤ 200 ∧ ∃ v', e = .returned (.tuple #[v', .int .i64 0]) ∧ OwR w' w.heap.size v' (packR l)) ∧ Below w.heap.size w w' := by
  go_enter Tryd.func17, Tryd.ntmps17
  go_wp2
  go_loopw [4, 9] (fun out i wr => ∃ k : Nat, k ≤ l.length ∧ i = .int .i64 k ∧ OwR wr w.heap.size out (packR (l.take k)) ∧ Hid ((packR (l.take k)).length ≤ 200) ∧ Below w.heap.size w wr) (fun _ i _ => l.length - (intOf i).toNat)
  case atStart => exact ⟨0, by omega, rfl, OwR.nil _ _, (show ([] : List Rn).length ≤ 200 from Nat.zero_le 200), Below.refl _ _⟩
  case round =>
    obtain ⟨k, hk, rfl, ho, hlen, hb⟩ := hrel
    by_cases hlt : k < l.length
    · have hlz : (k : Int) < (l.length : Int) := by omega
      obtain ⟨ad, rfl, hc⟩ := sl_byte (sl_below hs hb) hlt
      obtain ⟨hA, ht⟩ := packF (l.take k) (by rw [List.length_take]; omega)
      have hsn : packR (l.take (k + 1)) = putR (packR (l.take k)) (l[k], 1) := by
        rw [← packR_snoc]
        congr 1
        simp
      have hput := put_any (packR (l.take k)) (l[k], 1) w.heap.size _ wr ho hb.size (fun x hx => by
        have h1 := allG_mem hA x hx
        have h2 := mem_tot _ (allG_mem hA) x hx
        rw [ht, List.length_take] at h2
        unfold I64
        simp only
        omega) (by have := hlen.out; omega)
      simp only at hput
      rw [← hsn] at hput
      have hpl := pack_len l (by omega) (k + 1)
      clear hA ht hsn hlen ho
      obtain ⟨P1, hP1⟩ : ∃ P1, P1 = packR (l.take (k + 1)) := ⟨_, rfl⟩
      rw [← hP1] at hput hpl
      have HP := Lib.hid hP1
      clear hP1
      go_wp2_with fail
      refine hput.mono ?_
      rintro e w1 ⟨v1, rfl, ho1, hb1⟩
      have hb2 := hb.trans hb1
      obtain ⟨A1, c1, rfl, hsl1, _⟩ := ho1.sl
      have HO := Lib.hid ho1
      clear hput ho1 hb1
      by_cases h200 : 200 < P1.length
      · have hz : (P1.length : Int) > 200 := by omega
        go_wp2
        go_ret2
        exact ⟨.inl ⟨by omega, rfl⟩, hb2⟩
      · have hz : ¬ (P1.length : Int) > 200 := by omega
        go_wp2
        go_roundw
        case rel =>
          have hpp := HP.out
          exact ⟨k + 1, by omega, by go_num, by rw [← hpp]; exact HO.out, (by rw [← hpp]; omega : _ ≤ 200), hb2⟩
        case measure => simp [intOf]; omega
    · obtain rfl : k = l.length := by omega
      have hlz : ¬ (l.length : Int) < (l.length : Int) := by omega
      have hl2 := hlen.out
      rw [List.take_length] at ho hl2
      have HL2 := Lib.hid hl2
      clear hl2 hlen
      go_wp2
      go_ret2
      exact ⟨.inr ⟨HL2.out, _, rfl, ho⟩, hb⟩
/-- Of places i .. k all bytes are alike. -/
def Alike (l : List UInt8) (i k : Nat) : Prop := ∀ j, i ≤ j → j < k → l[j]? = l[i]?
/-- Where a run begins. -/
def Edge (l : List UInt8) (i : Nat) : Prop := ∀ (h : i < l.length), Ends (packR (l.take i)) l[i]
theorem edge_zero (l : List UInt8) : Edge l 0 := fun h e => absurd (by simp [packR]) e
theorem group_eq {l : List UInt8} {i k : Nat} (hi : i < k) (hk : k ≤ l.length) (he : Edge l i) (ha : Alike l i k) :
    packR (l.take k) = packR (l.take i) ++ [(l[i]'(by omega), ((k - i : Nat) : Int))] := by
  have h1 : l.take k = l.take i ++ List.replicate (k - i - 1 + 1) (l[i]'(by omega)) := by
    apply List.ext_getElem?
    intro j
    rw [List.getElem?_take, List.getElem?_append, List.length_take, Nat.min_eq_left (by omega), List.getElem?_take, List.getElem?_replicate]
    by_cases h : j < i
    · rw [if_pos (by omega), if_pos h, if_pos h]
    · rw [if_neg h]
      by_cases h' : j < k
      · rw [if_pos h', if_pos (by omega), ha j (by omega) h', List.getElem?_eq_getElem (by omega)]
      · rw [if_neg h', if_neg (by omega)]
  have h2 := pack_group (packR (l.take i)) (l[i]'(by omega)) (he (by omega)) (k - i - 1)
  rw [h1]
  unfold packR at h2 ⊢
  rw [List.foldl_append, h2, show k - i - 1 + 1 = k - i by omega]
theorem edge_next {l : List UInt8} {i k : Nat} (hi : i < k) (hk : k ≤ l.length) (he : Edge l i) (ha : Alike l i k) (hne : ∀ h : k < l.length, l[k] ≠ l[i]'(by omega)) : Edge l k := by
  intro h _
  rw [group_eq hi hk he ha]
  have := (rB_last (packR (l.take i)) (l[i]'(by omega), ((k - i : Nat) : Int))).1
  simp only [List.length_append, List.length_singleton, Nat.add_sub_cancel]
  rw [this]
  exact fun e => hne h e.symm
theorem alike_step {l : List UInt8} {i k : Nat} (ha : Alike l i k) (hik : i ≤ k) (h : k < l.length) (he : l[k] = l[i]'(by omega)) : Alike l i (k + 1) := by
  intro j h1 h2
  by_cases e : j = k
  · subst e
    rw [List.getElem?_eq_getElem h, he, List.getElem?_eq_getElem]
  · exact ha j h1 (by omega)
set_option maxHeartbeats 2000000 in
theorem refPack_any (l : List UInt8) (hl : l.length ≤ 1000) (A : Option Addr) (c : Nat) (w : World) (hs : Sl w A c (bcs l)) :
    Calls Tryd.prog 15 #[.slice A l.length c] w fun e w' => ∃ v', e = .returned v' ∧ OwR w' w.heap.size v' (packR l) ∧ Below w.heap.size w w' := by
  obtain ⟨i0, hi, hz0, hz1, hz2⟩ := info_parts infoRun
  go_enter Tryd.func15, Tryd.ntmps15
  go_wp2
  go_loopw [3, 4] (fun out i wr => ∃ k : Nat, k ≤ l.length ∧ i = .int .i64 k ∧ OwR wr w.heap.size out (packR (l.take k)) ∧ Hid (Edge l k) ∧ Hid ((packR (l.take k)).length ≤ k) ∧ Below w.heap.size w wr) (fun _ i _ => l.length - (intOf i).toNat)
  case atStart => exact ⟨0, by omega, rfl, OwR.nil _ _, edge_zero l, Nat.le_refl 0, Below.refl _ _⟩
  case round =>
    obtain ⟨k, hk, rfl, ho, hE, hlen, hb⟩ := hrel
    by_cases hlt : k < l.length
    · have hlz : (k : Int) < (l.length : Int) := by omega
      have hsb := sl_below hs hb
      obtain ⟨ad, rfl, hc⟩ := sl_byte hsb hlt
      go_wp2
      go_loopw [5] (fun kk wr2 => ∃ q : Nat, k ≤ q ∧ q ≤ l.length ∧ kk = .int .i64 q ∧ Hid (Alike l k q) ∧ Below wr.heap.size wr wr2) (fun kk _ => l.length - (intOf kk).toNat)
      case atStart => exact ⟨k, by omega, by omega, rfl, fun j h1 h2 => by omega, Below.refl _ _⟩
      case round =>
        obtain ⟨q, hq1, hq2, rfl, hal, hb2⟩ := hrel
        have hck := (hb2.cell (World.block_lt_of_cell? _ _ hc)).trans hc
        have hbx := ext_trans hb hb2
        obtain ⟨Y, hY⟩ : ∃ Y, Y = (l[k].toNat : Int) := ⟨_, rfl⟩
        rw [← hY] at hck
        have HY := Lib.hid hY
        clear hY
        by_cases hql : q < l.length
        · have hqz : (q : Int) < (l.length : Int) := by omega
          have dq : decide ((q : Int) < (l.length : Int)) = true := decide_eq_true hqz
          obtain ⟨ad', e', hcq⟩ := sl_byte (sl_below hsb hb2) hql
          injection e' with e'
          subst e'
          obtain ⟨X, hX⟩ : ∃ X, X = (l[q].toNat : Int) := ⟨_, rfl⟩
          rw [← hX] at hcq
          have HX := Lib.hid hX
          clear hX
          by_cases hxy : X = Y
          · subst hxy
            have d2 : (X == X) = true := by simp
            have hal2 := Lib.hid (alike_step hal.out hq1 hql (UInt8.toNat_inj.1 (by have := HX.out; have := HY.out; omega)))
            go_wp2
            go_quiet (fail)
            go_wp2
            go_roundw
            case rel => exact ⟨q + 1, by omega, by omega, by go_num, hal2.out, below_drewN hb2 _⟩
            case measure => simp [intOf]; omega
          · have d2 : (X == Y) = false := by rw [beq_eq_false_iff_ne]; exact hxy
            have hkq : k < q := by
              rcases Nat.lt_or_ge k q with h | h
              · exact h
              · obtain rfl : k = q := by omega
                exact absurd (HX.out.trans HY.out.symm) hxy
            have hge := group_eq hkq hq2 hE.out hal.out
            have hen := edge_next hkq hq2 hE.out hal.out (fun h e => hxy (by rw [HX.out, HY.out, e]))
            go_wp2
            go_quiet (fail)
            obtain ⟨T, hT⟩ : ∃ T : Nat, T = q - k := ⟨_, rfl⟩
            have hwT : IntKind.i64.wrap ((q : Int) - (k : Int)) = (T : Int) := by rw [IntKind.wrap_i64]; omega
            rw [← hT] at hge
            have hsl : OwR wr w.heap.size u3 (packR (l.take k)) := row_below ho hb2
            have hl9 := hlen.out
            have HE := Lib.hid hen
            obtain ⟨w2, hw2⟩ : ∃ w2, w2 = wr.drewN nq := ⟨_, rfl⟩
            have hck2 : w2.cell? (ad.add k) = some (.int .u8 Y) := by rw [hw2]; exact hck
            have hs2 : OwR w2 w.heap.size u3 (packR (l.take k)) := by rw [hw2]; exact hsl
            have hb5 : Below w.heap.size w w2 := by rw [hw2]; exact below_drewN hbx nq
            rw [← hw2]
            obtain ⟨P0, hP0⟩ : ∃ P0, P0 = packR (l.take k) := ⟨_, rfl⟩
            rw [← hP0] at hs2 hge hl9
            obtain ⟨A3, c3, rfl, _, _⟩ := hs2.sl
            obtain ⟨g3, c4, w3, hr3, hq3, hg3⟩ := app_row (P := Tryd.prog) w2 24 31 _ 2 16 Tryd.underlying24 hi hz0 hz1 hz2 rfl (by omega) (.slice A3 P0.length c3) P0.length (rcells P0) hs2 (by have := hb5.size; omega) [.int .u8 Y, .int .i64 (T : Int)] rfl (by simp [Value.oneCell']) (by omega) (by omega)
            have hlo := hs2.lt
            have hown : OwR w3 w.heap.size (.slice (some ⟨g3, 0, none⟩) (P0.length + 1) c4) (packR (l.take q)) := by
              rw [hge]
              unfold OwR
              rw [rcells_append, List.length_append]
              have hyy := HY.out
              simpa [rcells, ← hyy] using hq3
            have hlq : (packR (l.take q)).length ≤ q := by rw [hge]; simp; omega
            have HLQ := Lib.hid hlq
            have HO := Lib.hid hown
            have hb6 := hb5.grown hg3 (by have := hb5.size; omega) (fun k e => (hlo k e).1)
            clear hw2 hP0 hs2 hsl hge hlo hg3 hq3 hown hlq hl9 hlen ho hen hT hck hc
            go_wp2
            go_roundw
            case rel => exact ⟨q, by omega, rfl, HO.out, HE, HLQ, hb6⟩
            case measure => simp [intOf]; omega
        · have hqz : ¬ (q : Int) < (l.length : Int) := by omega
          have dq : decide ((q : Int) < (l.length : Int)) = false := decide_eq_false hqz
          have hge := group_eq (show k < q by omega) hq2 hE.out hal.out
          have hen := edge_next (show k < q by omega) hq2 hE.out hal.out (fun h e => by omega)
          go_wp2
          go_quiet (fail)
          obtain ⟨T, hT⟩ : ∃ T : Nat, T = q - k := ⟨_, rfl⟩
          have hwT : IntKind.i64.wrap ((q : Int) - (k : Int)) = (T : Int) := by rw [IntKind.wrap_i64]; omega
          rw [← hT] at hge
          have hsl : OwR wr w.heap.size u3 (packR (l.take k)) := row_below ho hb2
          have hl9 := hlen.out
          have HE := Lib.hid hen
          obtain ⟨w2, hw2⟩ : ∃ w2, w2 = wr.drewN nq := ⟨_, rfl⟩
          have hck2 : w2.cell? (ad.add k) = some (.int .u8 Y) := by rw [hw2]; exact hck
          have hs2 : OwR w2 w.heap.size u3 (packR (l.take k)) := by rw [hw2]; exact hsl
          have hb5 : Below w.heap.size w w2 := by rw [hw2]; exact below_drewN hbx nq
          rw [← hw2]
          obtain ⟨P0, hP0⟩ : ∃ P0, P0 = packR (l.take k) := ⟨_, rfl⟩
          rw [← hP0] at hs2 hge hl9
          obtain ⟨A3, c3, rfl, _, _⟩ := hs2.sl
          obtain ⟨g3, c4, w3, hr3, hq3, hg3⟩ := app_row (P := Tryd.prog) w2 24 31 _ 2 16 Tryd.underlying24 hi hz0 hz1 hz2 rfl (by omega) (.slice A3 P0.length c3) P0.length (rcells P0) hs2 (by have := hb5.size; omega) [.int .u8 Y, .int .i64 (T : Int)] rfl (by simp [Value.oneCell']) (by omega) (by omega)
          have hlo := hs2.lt
          have hown : OwR w3 w.heap.size (.slice (some ⟨g3, 0, none⟩) (P0.length + 1) c4) (packR (l.take q)) := by
            rw [hge]
            unfold OwR
            rw [rcells_append, List.length_append]
            have hyy := HY.out
            simpa [rcells, ← hyy] using hq3
          have hlq : (packR (l.take q)).length ≤ q := by rw [hge]; simp; omega
          have HLQ := Lib.hid hlq
          have HO := Lib.hid hown
          have hb6 := hb5.grown hg3 (by have := hb5.size; omega) (fun k e => (hlo k e).1)
          clear hw2 hP0 hs2 hsl hge hlo hg3 hq3 hown hlq hl9 hlen ho hen hT hck hc
          go_wp2
          go_roundw
          case rel => exact ⟨q, by omega, rfl, HO.out, HE, HLQ, hb6⟩
          case measure => simp [intOf]; omega
    · obtain rfl : k = l.length := by omega
      have hlz : ¬ (l.length : Int) < (l.length : Int) := by omega
      rw [List.take_length] at ho
      go_wp2
      go_ret
      exact ⟨_, rfl, ho, hb⟩
end Go.Proofs.YtbdgfbkhplhpkaaDoor
