/- The walk of the program's Join, where all words are formed. -/
import Derived.Test.YtbdgfbkhplhpkaaDoorRunQ
namespace Go.Proofs.YtbdgfbkhplhpkaaDoor
open Go.RowKit
set_option linter.unusedVariables false
set_option linter.unusedSimpArgs false

theorem row_below {w w' : World} {base : Nat} {v : Value} {rs : List Rn} (h : OwR w base v rs) (hb : Below w.heap.size w w') : OwR w' base v rs :=
  h.kept (row := none) ⟨hb.os, hb.tape, hb.output, hb.size, fun k hk _ => hb.block k hk⟩ (by
    rcases Value.ownBlock v with _ | b
    · exact .inl rfl
    · exact .inr (by simp))
set_option maxHeartbeats 4000000 in
theorem join_ok (ws : List (List Rn)) (A : Option Addr) (c : Nat) (w : World) (h : Ws w A c ws) (hf : Fine ws) (hn : ws.length ≤ 10) (h60 : ∀ x ∈ ws, x.length ≤ 60) :
    Calls Tryd.prog 8 #[.slice A ws.length c] w fun e w' =>
      (200 < (joinW [] ws).length ∧ e = .returned (.tuple #[.slice none 0 0, .int .i64 3]) ∨ (joinW [] ws).length ≤ 200 ∧ ∃ v', e = .returned (.tuple #[v', .int .i64 0]) ∧ OwR w' w.heap.size v' (joinW [] ws)) ∧ Below w.heap.size w w' := by
  have HF := Lib.hid hf
  have hT : ∀ x ∈ ws, ∀ i, I64 (rT x i) := fun x hx => allG_i64 (hf x hx).1.1 (by have := (hf x hx).2; omega)
  have HT := Lib.hid hT
  have H60 := Lib.hid h60
  clear hf hT h60
  go_enter Tryd.func8, Tryd.ntmps8
  go_wp2
  go_loopw [13] (fun i wr => ∃ k : Nat, k ≤ ws.length ∧ i = .int .i64 k ∧ Below w.heap.size w wr) (fun i _ => ws.length - (intOf i).toNat)
  case atStart => exact ⟨0, by omega, rfl, Below.refl _ _⟩
  case round =>
    obtain ⟨k, hk, rfl, hb⟩ := hrel
    by_cases hlt : k < ws.length
    · have hlz : (k : Int) < (ws.length : Int) := by omega
      obtain ⟨ad, B, d, rfl, hc, hr⟩ := (h.below hb).at_ hlt
      have hfm := fun W (hr : Rs W B d ws[k]) => formedR_any ws[k] (HT.out _ (List.getElem_mem hlt)) B d W hr
      rw [runsOk_yes (HF.out _ (List.getElem_mem hlt)).1] at hfm
      generalize ws[k] = x at hfm hc hr
      go_wp2_with fail
      refine (hfm _ hr).mono ?_
      rintro e w1 ⟨rfl, hb1⟩
      go_wp2
      go_roundw
      case rel => exact ⟨k + 1, by omega, by go_num, ext_trans hb hb1⟩
      case measure => simp [intOf]; omega
    · have hlz : ¬ (k : Int) < (ws.length : Int) := by omega
      obtain ⟨W, hW⟩ : ∃ W : World, W = wr := ⟨_, rfl⟩
      subst hW
      go_wp2
      go_loopw [4, 23] (fun out i ws_ => ∃ k : Nat, k ≤ ws.length ∧ i = .int .i64 k ∧ OwR ws_ w.heap.size out (joinW [] (ws.take k)) ∧ (joinW [] (ws.take k)).length ≤ 200 ∧ Below w.heap.size w ws_) (fun _ i _ => ws.length - (intOf i).toNat)
      case atStart => exact ⟨0, by omega, rfl, OwR.nil _ _, by simp [joinW], hb⟩
      case round =>
        obtain ⟨k, hk, rfl, ho, hl, hb2⟩ := hrel
        by_cases hlt : k < ws.length
        · have hlz : (k : Int) < (ws.length : Int) := by omega
          obtain ⟨ad, B, d, rfl, hc0, hr⟩ := h.at_ hlt
          have hc := (hb2.cell (World.block_lt_of_cell? w _ hc0)).trans hc0
          have hx60 : ws[k].length ≤ 60 := H60.out _ (List.getElem_mem hlt)
          have hP0 := part_zero ws k
          rw [← hP0] at ho
          have HL := Lib.hid hl
          clear hP0 hl hc0
          go_wp2
          go_loopw [4, 29] (fun out i wt => ∃ q : Nat, q ≤ ws[k].length ∧ i = .int .i64 q ∧ OwR wt w.heap.size out (partW ws k q) ∧ Below w.heap.size w wt) (fun _ i _ => ws[k].length - (intOf i).toNat)
          case atStart => exact ⟨0, by omega, rfl, ho, hb2⟩
          case round =>
            obtain ⟨q, hq, rfl, ho2, hb3⟩ := hrel
            clear ho hc
            by_cases hql : q < ws[k].length
            · have hqz : (q : Int) < (ws[k].length : Int) := by omega
              obtain ⟨bd, rfl, r0, r1⟩ := (hr.below hb3).at_ hql
              have hroom := part_room HF.out hn hlt q (List.getElem_mem hql)
              have hlen := (part_facts HF.out hn hlt q).2.2
              have hsz := hb3.size
              have eB : (rB ws[k] q) = (ws[k][q]).1 := by simp [rB, List.getD_eq_getElem?_getD, List.getElem?_eq_getElem hql]
              have eT : (rT ws[k] q) = (ws[k][q]).2 := by simp [rT, List.getD_eq_getElem?_getD, List.getElem?_eq_getElem hql]
              rw [eB] at r0
              rw [eT] at r1
              have hst := part_step hlt hql
              have HS := Lib.hid hst
              have hput := fun W (ho : OwR W w.heap.size u4 (partW ws k q)) (hs : w.heap.size ≤ W.heap.size) => put_any (partW ws k q) ws[k][q] w.heap.size u4 W ho hs hroom (by have := HL.out; omega)
              rw [hst] at hput
              clear hst hroom eB eT hlen
              generalize ws[k][q] = r at *
              go_wp2_with fail
              refine (hput _ (ho2.alloc _) (by simp; omega)).mono ?_
              rintro e w5 ⟨v', rfl, ho5, hb5⟩
              have hb6 := (hb3.alloc hsz (.cells #[.int .u8 (r.1.toNat : Int), .int .i64 r.2] 31)).trans hb5
              clear hput ho2 hb3 r0 r1
              go_wp2
              go_roundw
              case rel => exact ⟨q + 1, by omega, by go_num, ho5, hb6⟩
              case measure => simp [intOf]; omega
            · obtain rfl : q = ws[k].length := by omega
              rw [part_all hlt] at ho2
              have hj := jn_of HF.out hn (k + 1) (by omega)
              have hsum := hj.sum
              obtain ⟨A', c', rfl, hrs, _⟩ := ho2.sl
              have hfm := formedR_any (joinW [] (ws.take (k + 1))) (allG_i64 hj.all (by omega)) A' c' wr hrs
              rw [runsOk_len hj.all] at hfm
              have hqz : ¬ (ws[k].length : Int) < (ws[k].length : Int) := by omega
              have hsz := hb3.size
              have HJ := Lib.hid hj.len
              clear hj hsum hrs
              cases hle : decide ((joinW [] (ws.take (k + 1))).length ≤ 200) with
              | true =>
                rw [hle] at hfm
                have HLE := Lib.hid (of_decide_eq_true hle)
                clear hle
                go_wp2_with fail
                refine hfm.mono ?_
                rintro e w5 ⟨rfl, hb5⟩
                have ho5 : OwR w5 w.heap.size (.slice A' (joinW [] (ws.take (k + 1))).length c') (joinW [] (ws.take (k + 1))) := row_below ho2 hb5
                have hb6 := ext_trans hb3 hb5
                clear hfm ho2 hb3 hb5
                go_wp2
                go_roundw
                case rel => exact ⟨k + 1, by omega, by go_num, ho5, HLE.out, hb6⟩
                case measure => simp [intOf]; omega
              | false =>
                rw [hle] at hfm
                have HLE := Lib.hid (of_decide_eq_false hle)
                clear hle
                go_wp2_with fail
                refine hfm.mono ?_
                rintro e w5 ⟨rfl, hb5⟩
                have hb6 := ext_trans hb3 hb5
                clear hfm ho2 hb3 hb5
                go_wp2
                go_ret2
                exact ⟨.inl ⟨by have := HJ.out; have := HLE.out; omega, rfl⟩, hb6⟩
        · obtain rfl : k = ws.length := by omega
          rw [List.take_length] at ho hl
          have hlz : ¬ (ws.length : Int) < (ws.length : Int) := by omega
          have HL := Lib.hid hl
          clear hl
          go_wp2
          go_ret2
          exact ⟨.inr ⟨HL.out, _, rfl, ho⟩, hb2⟩
end Go.Proofs.YtbdgfbkhplhpkaaDoor
