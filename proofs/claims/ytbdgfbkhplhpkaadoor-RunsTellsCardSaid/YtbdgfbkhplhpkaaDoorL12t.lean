/- RunsTells: the walk. -/
import Derived.Test.YtbdgfbkhplhpkaaDoorTxR
namespace Go.Proofs.YtbdgfbkhplhpkaaDoor
open Go.RowKit
set_option linter.unusedVariables false
set_option linter.unusedSimpArgs false
attribute [local go_sem ↓] appS

theorem packR_append (l m : List UInt8) : packR (l ++ m) = m.foldl (fun rs b => putR rs (b, 1)) (packR l) := by unfold packR; rw [List.foldl_append]
theorem pack_unp (rs : List Rn) : AllG rs → packR (unp rs) = rs := by
  refine snoc_ind (Q := fun rs => AllG rs → packR (unp rs) = rs) ?_ ?_ rs
  · exact fun _ => rfl
  · intro ss r ih h
    obtain ⟨b, T⟩ := r
    have hT : 1 ≤ T := allG_mem h (b, T) (by simp)
    obtain ⟨t, rfl⟩ : ∃ t : Nat, T = ((t + 1 : Nat) : Int) := ⟨(T - 1).toNat, by omega⟩
    have he : Ends ss b := by
      intro hne
      have hg := h ss.length (by simp)
      unfold Good at hg
      have hl : 0 < ss.length := List.length_pos_iff.2 hne
      have h3 := hg.2.2 hl
      rw [(rB_last ss _).1, (rB_left ss _ (show ss.length - 1 < ss.length by omega)).1] at h3
      exact h3
    have hu : unp [(b, ((t + 1 : Nat) : Int))] = List.replicate (t + 1) b := by simp [unp]
    rw [unp_append, packR_append, ih (allG_left h), hu, pack_group ss b he t]

set_option maxHeartbeats 4000000 in
theorem runsTells_any (rs : List Rn) (A : Option Addr) (c : Nat) (m : Int) (hm0 : 0 ≤ m) (hm1 : m ≤ 255) (w : World) (hs : Rs w A c rs) (hT : ∀ i, I64 (rT rs i)) (htab : Tabs w) :
    Calls Tryd.prog 4 #[.slice A rs.length c, .int .u8 m] w fun e w' => e = .returned (.bool true) ∧ Below w.heap.size w w' := by
  have hcap := hs.cap
  have hmax := hs.max
  have HT := Lib.hid hT
  clear hT
  have hwm : IntKind.i64.wrap m = m := by rw [IntKind.wrap_i64]; omega
  go_enter Tryd.func4, Tryd.ntmps4
  go_wp2_with fail
  refine (awake_true _).mono ?_
  rintro e w0 ⟨rfl, hb0⟩
  by_cases hn : 300 < rs.length
  · have hnz : (rs.length : Int) > 300 := by omega
    go_wp2_with fail
    refine (awake_true _).mono ?_
    rintro e w1 ⟨rfl, hb1⟩
    go_wp2
    go_ret
    exact ⟨rfl, ext_trans hb0 hb1⟩
  · have hnz : ¬ (rs.length : Int) > 300 := by omega
    have hff := formedF_any rs HT.out A c w0 (hs.below hb0)
    by_cases hf : RunsF rs
    · rw [runsSum_yes hf, runsOk_yes hf] at hff
      have hAG := hf.1
      have htx := fun W (h : Rs W A c rs) (ht : Tabs W) => text_any rs hf A c W h ht
      have hrx := fun W (h : Rs W A c rs) => refText_any rs hf A c W h
      have hfr := fun W (h : Rs W A c rs) => formedR_any rs HT.out A c W h
      have hsz := fun W (h : Rs W A c rs) => size_any rs hf A c W h
      rw [runsOk_yes hf] at hfr
      obtain ⟨J, hJ⟩ : ∃ J, J = Lib.join (rs.map piece) [32] := ⟨_, rfl⟩
      rw [← hJ] at htx hrx
      obtain ⟨n, hnn⟩ : ∃ n, n = tot rs := ⟨_, rfl⟩
      have hn2 : sumT rs rs.length = n := hnn.symm
      rw [hn2] at hff
      rw [← hnn] at hsz
      by_cases hlong : m < n
      · have hul := fun W (h : Rs W A c rs) => unpack_long rs hf A c m (by rw [← hnn]; exact hlong) W h
        have hlz : n > m := hlong
        clear hJ hnn hn2 hf hAG
        go_wp2_with fail
        refine hff.mono ?_
        rintro e w1 ⟨rfl, hb1⟩
        have hbA := ext_trans hb0 hb1
        go_wp2_with fail
        refine (hul _ (hs.below hbA)).mono ?_
        rintro e w2 ⟨rfl, hb2⟩
        have hbB := ext_trans hbA hb2
        clear hff hul
        go_wp2_with fail
        refine (hfr _ (hs.below hbB)).mono ?_
        rintro e w3 ⟨rfl, hb3⟩
        have hbC := ext_trans hbB hb3
        go_wp2_with fail
        refine (hsz _ (hs.below hbC)).mono ?_
        rintro e w4 ⟨rfl, hb4⟩
        have hbD := ext_trans hbC hb4
        go_wp2_with fail
        refine (htx _ (hs.below hbD) (htab.below hbD)).mono ?_
        rintro e w5 ⟨rfl, hb5⟩
        have hbE := ext_trans hbD hb5
        go_wp2_with fail
        refine (hrx _ (hs.below hbE)).mono ?_
        rintro e w6 ⟨rfl, hb6⟩
        have hbF := ext_trans hbE hb6
        clear hfr hsz htx hrx
        go_wp2
        go_ret
        exact ⟨rfl, hbF⟩
      · have hul := fun W (h : Rs W A c rs) => unpack_ok rs hf A c m (by rw [← hnn]; omega) (by rw [← hnn]; omega) W h
        have hlz : ¬ n > m := by omega
        have hpu := pack_unp rs hAG
        have hlu := unp_length rs (allG_mem hAG)
        obtain ⟨U, hU⟩ : ∃ U, U = unp rs := ⟨_, rfl⟩
        rw [← hU] at hul hpu hlu
        have hU2 : U.length ≤ 1000 := by omega
        have hrp := fun A' c' W (h : Sl W A' c' (bcs U)) => refPack_any U hU2 A' c' W h
        rw [hpu] at hrp
        clear hJ hnn hn2 hf hAG hpu hlu hU
        go_wp2_with fail
        refine hff.mono ?_
        rintro e w1 ⟨rfl, hb1⟩
        have hbA := ext_trans hb0 hb1
        go_wp2_with fail
        refine (hul _ (hs.below hbA)).mono ?_
        rintro e w2 ⟨v, rfl, ho, hb2⟩
        have hbB := ext_trans hbA hb2
        obtain ⟨A2, c2, rfl, hs2, _⟩ := ho.sl
        rw [bcs_length]
        clear hff hul ho
        go_wp2_with fail
        refine (hrp _ _ _ hs2).mono ?_
        rintro e w2 ⟨v, rfl, ho, hb2⟩
        have hbB2 := ext_trans hbB hb2
        obtain ⟨A3, c3, rfl, hs3, _⟩ := ho.sl
        clear hrp ho
        go_wp2_with fail
        refine (sameRuns_any rs A3 A c3 c _ hs3 (hs.below hbB2)).mono ?_
        rintro e w2' ⟨rfl, hb2'⟩
        have hbB3 := ext_trans hbB2 hb2'
        go_wp2_with fail
        refine (hfr _ (hs.below hbB3)).mono ?_
        rintro e w3 ⟨rfl, hb3⟩
        have hbC := ext_trans hbB3 hb3
        go_wp2_with fail
        refine (hsz _ (hs.below hbC)).mono ?_
        rintro e w4 ⟨rfl, hb4⟩
        have hbD := ext_trans hbC hb4
        go_wp2_with fail
        refine (htx _ (hs.below hbD) (htab.below hbD)).mono ?_
        rintro e w5 ⟨rfl, hb5⟩
        have hbE := ext_trans hbD hb5
        go_wp2_with fail
        refine (hrx _ (hs.below hbE)).mono ?_
        rintro e w6 ⟨rfl, hb6⟩
        have hbF := ext_trans hbE hb6
        clear hfr hsz htx hrx
        go_wp2
        go_ret
        exact ⟨rfl, hbF⟩
    · rw [runsSum_no hf, runsOk_no hf] at hff
      have hub := fun W (h : Rs W A c rs) => unpack_bad rs HT.out hf A c m W h
      have htb := fun W (h : Rs W A c rs) => text_bad rs HT.out hf A c W h
      have hsb := fun W (h : Rs W A c rs) => size_bad rs HT.out hf A c W h
      have hfr := fun W (h : Rs W A c rs) => formedR_any rs HT.out A c W h
      rw [runsOk_no hf] at hfr
      clear hf
      go_wp2_with fail
      refine hff.mono ?_
      rintro e w1 ⟨rfl, hb1⟩
      have hbA := ext_trans hb0 hb1
      go_wp2_with fail
      refine (hub _ (hs.below hbA)).mono ?_
      rintro e w2 ⟨rfl, hb2⟩
      have hbB := ext_trans hbA hb2
      clear hff hub
      go_wp2_with fail
      refine (hfr _ (hs.below hbB)).mono ?_
      rintro e w3 ⟨rfl, hb3⟩
      have hbC := ext_trans hbB hb3
      go_wp2_with fail
      refine (hsb _ (hs.below hbC)).mono ?_
      rintro e w4 ⟨rfl, hb4⟩
      have hbD := ext_trans hbC hb4
      go_wp2_with fail
      refine (htb _ (hs.below hbD)).mono ?_
      rintro e w5 ⟨rfl, hb5⟩
      have hbE := ext_trans hbD hb5
      clear hfr hsb htb
      go_wp2
      go_ret
      exact ⟨rfl, hbE⟩
end Go.Proofs.YtbdgfbkhplhpkaaDoor
