/- The walk of the reference's Join. -/
import Derived.Test.YtbdgfbkhplhpkaaDoorRunV
namespace Go.Proofs.YtbdgfbkhplhpkaaDoor
open Go.RowKit
set_option linter.unusedVariables false
set_option linter.unusedSimpArgs false
attribute [local go_sem ↓] appS

set_option maxHeartbeats 4000000 in
theorem refJoin_any (ws : List (List Rn)) (A : Option Addr) (c : Nat) (w : World) (h : Ws w A c ws) (hf : Fine ws) (hn : ws.length ≤ 10) (h60 : ∀ x ∈ ws, x.length ≤ 60) :
    Calls Tryd.prog 9 #[.slice A ws.length c] w fun e w' => ∃ v', e = .returned v' ∧ OwR w' w.heap.size v' (joinW [] ws) ∧ Below w.heap.size w w' := by
  have HF := Lib.hid hf
  have H60 := Lib.hid h60
  clear hf h60
  obtain ⟨i0, hi, hz0, hz1, hz2⟩ := info_parts infoRun
  go_enter Tryd.func9, Tryd.ntmps9
  go_wp2
  go_loopw [3, 4] (fun out i ws_ => ∃ k : Nat, k ≤ ws.length ∧ i = .int .i64 k ∧ OwR ws_ w.heap.size out (joinW [] (ws.take k)) ∧ (joinW [] (ws.take k)).length ≤ 60 * k ∧ Below w.heap.size w ws_) (fun _ i _ => ws.length - (intOf i).toNat)
  case atStart => exact ⟨0, by omega, rfl, OwR.nil _ _, by simp [joinW], Below.refl _ _⟩
  case round =>
    obtain ⟨k, hk, rfl, ho, hl, hb2⟩ := hrel
    by_cases hlt : k < ws.length
    · have hlz : (k : Int) < (ws.length : Int) := by omega
      obtain ⟨ad, B, d, rfl, hc0, hr⟩ := h.at_ hlt
      have hx60 : ws[k].length ≤ 60 := H60.out _ (List.getElem_mem hlt)
      have hP0 := part_zero ws k
      rw [← hP0] at ho
      have HL := Lib.hid hl
      clear hP0 hl
      go_wp2
      go_loopw [3, 5] (fun out i wt => ∃ q : Nat, q ≤ ws[k].length ∧ i = .int .i64 q ∧ OwR wt w.heap.size out (partW ws k q) ∧ Below w.heap.size w wt) (fun _ i _ => ws[k].length - (intOf i).toNat)
      case atStart => exact ⟨0, by omega, rfl, ho, hb2⟩
      case round =>
        obtain ⟨q, hq, rfl, ho2, hb3⟩ := hrel
        have hc := (hb3.cell (World.block_lt_of_cell? w _ hc0)).trans hc0
        clear ho
        by_cases hql : q < ws[k].length
        · have hqz : (q : Int) < (ws[k].length : Int) := by omega
          obtain ⟨bd, rfl, r0, r1⟩ := (hr.below hb3).at_ hql
          have hroom := part_room HF.out hn hlt q (List.getElem_mem hql)
          have hlen := (part_facts HF.out hn hlt q).2.2
          have hsz := hb3.size
          have eB : (rB ws[k] q) = (ws[k][q]).1 := by simp [rB, List.getD_eq_getElem?_getD, List.getElem?_eq_getElem hql]
          have eT : (rT ws[k] q) = (ws[k][q]).2 := by simp [rT, List.getD_eq_getElem?_getD, List.getElem?_eq_getElem hql]
          rw [eB] at r0
          rw [eT] at r1
          have hst := part_step hlt hql
          have hl9 : (partW ws k q).length ≤ 90000 := by have := HL.out; omega
          clear eB eT hlen
          generalize ws[k][q] = r at *
          obtain ⟨b', T'⟩ := r
          obtain ⟨B', hB'⟩ : ∃ B', B' = (b'.toNat : Int) := ⟨_, rfl⟩
          simp only at r0 r1
          rw [← hB'] at r0
          have HB' := Lib.hid hB'
          clear hB'
          have hb4 := hb3.alloc hsz (.cells #[.int .u8 B', .int .i64 T'] 31)
          have ho4 := ho2.alloc (.cells #[.int .u8 B', .int .i64 T'] 31)
          have hbx := heap_alloc_new wr (.cells #[.int .u8 B', .int .i64 T'] 31)
          generalize partW ws k q = rs at *
          by_cases h0 : rs = []
          · subst h0
            obtain ⟨A1, c1, rfl, _, _⟩ := ho4.sl
            rw [putR_nil] at hst
            have HS := Lib.hid hst
            clear hst hroom ho2
            rw [show ([] : List Rn).length = 0 from rfl] at *
            go_wp2_with fail
            go_quiet (fail)
            obtain ⟨w2, hw⟩ : ∃ w2, w2 = (wr.alloc (.cells #[.int .u8 B', .int .i64 T'] 31)).drewN nq := ⟨_, rfl⟩
            have cA : w2.cell? ⟨wr.heap.size, 0, none⟩ = some (.int .u8 B') := by rw [hw]; exact (blk_cell hbx 0).trans rfl
            have cB : w2.cell? ⟨wr.heap.size, 1, none⟩ = some (.int .i64 T') := by rw [hw]; exact (blk_cell hbx 1).trans rfl
            have h2 : OwR w2 w.heap.size (.slice A1 0 c1) [] := by rw [hw]; exact ho4
            have hb5 : Below w.heap.size w w2 := by rw [hw]; exact below_drewN hb4 nq
            rw [← hw]
            clear hw hbx ho4 hb4 r0 r1
            obtain ⟨g3, c3, w3, hr3, hq3, hg3⟩ := app_row (P := Tryd.prog) w2 24 31 _ 2 16 Tryd.underlying24 hi hz0 hz1 hz2 rfl (by omega) (.slice A1 0 c1) (0) ([]) h2 (by have := hb5.size; omega) [.int .u8 B', .int .i64 T'] rfl (by simp [Value.oneCell']) (by omega) (by omega)
            have hlo := h2.lt
            clear h2
            have hown : OwR w3 w.heap.size (.slice (some ⟨g3, 0, none⟩) (0 + 1) c3) (partW ws k (q + 1)) := by
              rw [← HS.out]
              unfold OwR
              simpa [rcells, ← HB'.out] using hq3
            have hb6 := hb5.grown hg3 (by have := hb5.size; omega) (fun k e => (hlo k e).1)
            go_wp2
            go_roundw
            case rel => exact ⟨q + 1, by omega, by go_num, hown, hb6⟩
            case measure => simp [intOf]; omega
          · obtain ⟨ss, ⟨b, T⟩, rfl⟩ : ∃ ss x, rs = ss ++ [x] := ⟨_, _, snoc_of rs h0⟩
            have hl' : ss.length ≤ 90000 := by simp at hl9; omega
            have hlt9 : ∀ ad, _ := fun (ad : Unit) => ho2.lt
            obtain ⟨g, c2, rfl, hg, c0, c1, f1⟩ := ho4.form
            have hglt : g < wr.heap.size := (ho2.lt g rfl).2
            have hw1 : IntKind.i64.wrap (((ss.length + 1 : Nat) : Int) - 1) = (ss.length : Int) := by rw [IntKind.wrap_i64]; omega
            have hw3 : IntKind.i64.wrap ((ss.length : Int) + 1 - 1) = (ss.length : Int) := by rw [IntKind.wrap_i64]; omega
            have d1 : decide (((ss.length + 1 : Nat) : Int) > 0) = true := decide_eq_true (by omega)
            obtain ⟨Bb, hBb⟩ : ∃ Bb, Bb = (b.toNat : Int) := ⟨_, rfl⟩
            simp only at c0 c1
            rw [← hBb] at c0
            have HBB := Lib.hid hBb
            clear hBb hlt9 h0 hl9
            by_cases hbe : b = b'
            · subst hbe
              rw [putR_same] at hst
              have HS := Lib.hid hst
              have hs := hroom (b, T) (by simp)
              unfold I64 at hs
              have hw2 : IntKind.i64.wrap (T + T') = T + T' := by rw [IntKind.wrap_i64]; simp only at hs; omega
              have hBe : Bb = B' := HBB.out.trans HB'.out.symm
              subst hBe
              have d2 : (Bb == Bb) = true := by simp
              clear hst hroom ho2 hs
              go_wp2_with fail
              go_quiet (fail)
              obtain ⟨w2, hw⟩ : ∃ w2, w2 = (wr.alloc (.cells #[.int .u8 Bb, .int .i64 T'] 31)).drewN nq := ⟨_, rfl⟩
              have cA : w2.cell? ⟨wr.heap.size, 0, none⟩ = some (.int .u8 Bb) := by rw [hw]; exact (blk_cell hbx 0).trans rfl
              have cB : w2.cell? ⟨wr.heap.size, 1, none⟩ = some (.int .i64 T') := by rw [hw]; exact (blk_cell hbx 1).trans rfl
              have cC : w2.cell? ⟨g, ss.length * 2 + 1, none⟩ = some (.int .i64 T) := by rw [hw]; exact c1
              have cF : w2.frozen? ⟨g, ss.length * 2 + 1, none⟩ = false := by rw [hw]; exact f1
              have h2 : OwR w2 w.heap.size (.slice (some ⟨g, 0, none⟩) (ss.length + 1) c2) (ss ++ [(b, T)]) := by rw [hw]; exact ho4
              have hb5 : Below w.heap.size w w2 := by rw [hw]; exact below_drewN hb4 nq
              rw [← hw]
              clear hw hbx ho4 hb4 r0 r1 c0 c1 f1
              go_wp2
              go_region
              all_goals
                have hown : OwR ((w2.setCell ⟨g, ss.length * 2 + 1, none⟩ (.int .i64 (T + T'))).drew) w.heap.size (.slice (some ⟨g, 0, none⟩) (ss.length + 1) c2) (partW ws k (q + 1)) := by
                  rw [← HS.out]
                  exact World.ownsRow.drew (h2.setLast (T + T'))
                have hb6 : Below w.heap.size w (w2.setCell ⟨g, ss.length * 2 + 1, none⟩ (.int .i64 (T + T'))).drew := (hb5.setCell (by exact hg) _).drew
                go_wp2
                go_roundw
                case rel => exact ⟨q + 1, by omega, by go_num, hown, hb6⟩
                case measure => simp [intOf]; omega
            · rw [putR_other ss b b' T T' hbe] at hst
              have HS := Lib.hid hst
              have hBB : (Bb == B') = false := by
                rw [beq_eq_false_iff_ne, HBB.out, HB'.out]
                intro e
                exact hbe (UInt8.toNat_inj.1 (by omega))
              clear hst hroom ho2
              go_wp2_with fail
              go_quiet (fail)
              obtain ⟨w2, hw⟩ : ∃ w2, w2 = (wr.alloc (.cells #[.int .u8 B', .int .i64 T'] 31)).drewN nq := ⟨_, rfl⟩
              have cA : w2.cell? ⟨wr.heap.size, 0, none⟩ = some (.int .u8 B') := by rw [hw]; exact (blk_cell hbx 0).trans rfl
              have cB : w2.cell? ⟨wr.heap.size, 1, none⟩ = some (.int .i64 T') := by rw [hw]; exact (blk_cell hbx 1).trans rfl
              have h2 : w2.ownsRow w.heap.size 31 2 (.slice (some ⟨g, 0, none⟩) (ss.length + 1) c2) (ss.length + 1) (rcells (ss ++ [(b, T)])) := by
                have : OwR w2 w.heap.size (.slice (some ⟨g, 0, none⟩) (ss.length + 1) c2) (ss ++ [(b, T)]) := by rw [hw]; exact ho4
                unfold OwR at this
                simpa using this
              have hb5 : Below w.heap.size w w2 := by rw [hw]; exact below_drewN hb4 nq
              rw [← hw]
              clear hw hbx ho4 hb4 r0 r1 c0 c1 f1
              obtain ⟨g3, c3, w3, hr3, hq3, hg3⟩ := app_row (P := Tryd.prog) w2 24 31 _ 2 16 Tryd.underlying24 hi hz0 hz1 hz2 rfl (by omega) (.slice (some ⟨g, 0, none⟩) (ss.length + 1) c2) (ss.length + 1) (rcells (ss ++ [(b, T)])) h2 (by have := hb5.size; omega) [.int .u8 B', .int .i64 T'] rfl (by simp [Value.oneCell']) (by omega) (by omega)
              clear h2
              have hown : OwR w3 w.heap.size (.slice (some ⟨g3, 0, none⟩) (ss.length + 1 + 1) c3) (partW ws k (q + 1)) := by
                rw [← HS.out]
                unfold OwR
                have e : (ss ++ [(b, T)] ++ [(b', T')]).length = ss.length + 1 + 1 := by simp
                rw [e, rcells_append]
                simpa [rcells, ← HB'.out] using hq3
              have hb6 := hb5.grown hg3 (by have := hb5.size; omega) (fun k e => by simp [Value.ownBlock] at e; omega)
              go_wp2
              go_roundw
              case rel => exact ⟨q + 1, by omega, by go_num, hown, hb6⟩
              case measure => simp [intOf]; omega
        · obtain rfl : q = ws[k].length := by omega
          have hlen := (part_facts HF.out hn hlt ws[k].length).2.2
          rw [part_all hlt] at ho2 hlen
          have hqz : ¬ (ws[k].length : Int) < (ws[k].length : Int) := by omega
          go_wp2
          go_roundw
          case rel => exact ⟨k + 1, by omega, by go_num, ho2, by have := HL.out; omega, hb3⟩
          case measure => simp [intOf]; omega
    · obtain rfl : k = ws.length := by omega
      rw [List.take_length] at ho
      have hlz : ¬ (ws.length : Int) < (ws.length : Int) := by omega
      clear hl
      go_wp2
      go_ret
      exact ⟨_, rfl, ho, hb2⟩
end Go.Proofs.YtbdgfbkhplhpkaaDoor
