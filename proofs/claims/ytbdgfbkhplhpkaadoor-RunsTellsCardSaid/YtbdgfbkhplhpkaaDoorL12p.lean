/- RunsPacks: the walk. -/
import Derived.Test.YtbdgfbkhplhpkaaDoorPk
namespace Go.Proofs.YtbdgfbkhplhpkaaDoor
open Go.RowKit
set_option linter.unusedVariables false
set_option linter.unusedSimpArgs false
attribute [local go_sem ↓] appS

theorem sl_str {w : World} {A : Option Addr} {c : Nat} {l : List UInt8} (h : Sl w A c (bcs l)) :
    (convert 36 9 (.slice A l.length c)).run Tryd.prog w = .ok (.string ⟨l.toArray⟩) w := by
  cases A with
  | none =>
    have h0 := h.nil rfl
    have h1 := h.cap
    rw [bcs_length] at h1
    have hl : l = [] := List.eq_nil_of_length_eq_zero (by omega)
    subst hl
    exact run_convert_bytes_nil w _ _ Tryd.underlying36 Tryd.underlying5 _ _ _ Tryd.underlying9
  | some ad =>
    exact run_convert_bytes_back w _ _ _ ad c l Tryd.underlying36 Tryd.underlying5 Tryd.underlying9 fun j hj => h.cell ad rfl j _ (by simp [bcs, List.getElem?_eq_getElem hj])

set_option maxHeartbeats 4000000 in
theorem runsPacks_any (l : List UInt8) (A : Option Addr) (c : Nat) (w : World) (hs : Sl w A c (bcs l)) :
    Calls Tryd.prog 5 #[.slice A l.length c] w fun e w' => e = .returned (.bool true) ∧ Below w.heap.size w w' := by
  have hcap := hs.cap
  have hmax := hs.max
  rw [bcs_length] at hcap
  go_enter Tryd.func5, Tryd.ntmps5
  go_wp2_with fail
  refine (awake_true _).mono ?_
  rintro e w0 ⟨rfl, hb0⟩
  by_cases hn : 1000 < l.length
  · have hnz : (l.length : Int) > 1000 := by omega
    go_wp2_with fail
    refine (awake_true _).mono ?_
    rintro e w1 ⟨rfl, hb1⟩
    go_wp2
    go_ret
    exact ⟨rfl, ext_trans hb0 hb1⟩
  · have hnz : ¬ (l.length : Int) > 1000 := by omega
    have hs0 := sl_below hs hb0
    obtain ⟨hAG, htt⟩ := packF l (by omega)
    have hup := unp_pack l (by omega)
    have hpk := pack_any l (by omega) A c w0 hs0
    have hrp := fun W (h : Sl W A c (bcs l)) => refPack_any l (by omega) A c W h
    obtain ⟨R, hR⟩ : ∃ R, R = packR l := ⟨_, rfl⟩
    rw [← hR] at hAG htt hup hpk hrp
    have HAG := Lib.hid hAG
    have HTT := Lib.hid htt
    have HUP := Lib.hid hup
    clear hR hAG htt hup
    go_wp2_with fail
    refine hpk.mono ?_
    rintro e w1 ⟨he, hb1⟩
    clear hpk
    have hs1 := sl_below hs0 hb1
    have hbA := ext_trans hb0 hb1
    rcases he with ⟨h200, rfl⟩ | ⟨h200, v1, rfl, ho1⟩
    · have hz : (R.length : Int) > 200 := by omega
      go_wp2_with fail
      refine (hrp _ hs1).mono ?_
      rintro e w2 ⟨v2, rfl, ho2, hb2⟩
      obtain ⟨A2, c2, rfl, _, _⟩ := ho2.sl
      clear hrp ho2
      go_wp2
      go_ret
      exact ⟨rfl, ext_trans hbA hb2⟩
    · have hz : ¬ (R.length : Int) > 200 := by omega
      obtain ⟨A1, c1, rfl, hr1, _⟩ := ho1.sl
      have hRF : RunsF R := ⟨HAG.out, h200⟩
      have HRF := Lib.hid hRF
      clear ho1 hRF
      go_wp2_with fail
      refine (hrp _ hs1).mono ?_
      rintro e w2 ⟨v2, rfl, ho2, hb2⟩
      obtain ⟨A2, c2, rfl, hr2, _⟩ := ho2.sl
      clear hrp ho2
      have hr12 := hr1.below hb2
      have hs2 := sl_below hs1 hb2
      have hbB := ext_trans hbA hb2
      have hu := unpack_ok R HRF.out A1 c1 (l.length : Int) (by have := HTT.out; omega) (by have := HTT.out; omega) w2 hr12
      rw [HUP.out] at hu
      go_wp2_with fail
      refine hu.mono ?_
      rintro e w3 ⟨v3, rfl, ho3, hb3⟩
      obtain ⟨A3, c3, rfl, hs3, _⟩ := ho3.sl
      rw [bcs_length] at *
      clear hu ho3
      have hbC := ext_trans hbB hb3
      have hr13 := hr12.below hb3
      have hr23 := hr2.below hb3
      have hsI := sl_below hs2 hb3
      have hw1 : IntKind.i64.wrap ((l.length : Int) - 1) = (l.length : Int) - 1 := by rw [IntKind.wrap_i64]; omega
      have hu2 := unpack_long R HRF.out A1 c1 ((l.length : Int) - 1) (by have := HTT.out; omega) w3 hr13
      go_wp2_with fail
      refine hu2.mono ?_
      rintro e w4 ⟨rfl, hb4⟩
      clear hu2
      have hbD := ext_trans hbC hb4
      have hsm := sameRuns_any R A1 A2 c1 c2 w4 (hr13.below hb4) (hr23.below hb4)
      go_wp2_with fail
      refine hsm.mono ?_
      rintro e w5 ⟨rfl, hb5⟩
      clear hsm
      have hbE := ext_trans hbD hb5
      have hr15 := (hr13.below hb4).below hb5
      have hfm := formedR_any R (allG_i64 HAG.out (by have := HTT.out; omega)) A1 c1 w5 hr15
      rw [runsOk_yes HRF.out] at hfm
      go_wp2_with fail
      refine hfm.mono ?_
      rintro e w6 ⟨rfl, hb6⟩
      clear hfm
      have hbF := ext_trans hbE hb6
      have hsz := size_any R HRF.out A1 c1 w6 (hr15.below hb6)
      rw [HTT.out] at hsz
      go_wp2_with fail
      refine hsz.mono ?_
      rintro e w7 ⟨rfl, hb7⟩
      clear hsz
      have hbG := ext_trans hbF hb7
      have hq1 := sl_str (sl_below (sl_below (sl_below (sl_below hs3 hb4) hb5) hb6) hb7)
      have hq2 := sl_str (sl_below (sl_below (sl_below (sl_below hsI hb4) hb5) hb6) hb7)
      go_wp2
      go_ret
      exact ⟨rfl, hbG⟩
end Go.Proofs.YtbdgfbkhplhpkaaDoor
