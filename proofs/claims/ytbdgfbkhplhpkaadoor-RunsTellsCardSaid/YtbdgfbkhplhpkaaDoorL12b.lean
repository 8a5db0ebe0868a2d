/- RunsJoins: the walk. -/
import Derived.Test.YtbdgfbkhplhpkaaDoorL12a
import Derived.Laws.StructEq
namespace Go.Proofs.YtbdgfbkhplhpkaaDoor
open Go.RowKit
set_option linter.unusedVariables false
set_option linter.unusedSimpArgs false
attribute [local go_sem ↓] appS

/-- Where the k-th word's runs begin among all. -/
def pre (ws : List (List Rn)) (k : Nat) : Nat := (ws.take k).flatten.length
theorem pre_zero (ws : List (List Rn)) : pre ws 0 = 0 := rfl
theorem pre_succ {ws : List (List Rn)} {k : Nat} (hk : k < ws.length) : pre ws (k + 1) = pre ws k + ws[k].length := by
  unfold pre
  rw [flat_snoc hk, List.length_append]
set_option maxHeartbeats 8000000 in
theorem runsJoins_any (ws : List (List Rn)) (A : Option Addr) (c : Nat) (w : World) (h : Ws w A c ws) (hT : ∀ x ∈ ws, ∀ i, I64 (rT x i)) :
    Calls Tryd.prog 3 #[.slice A ws.length c] w fun e w' => e = .returned (.bool true) ∧ Below w.heap.size w w' := by
  have HT := Lib.hid hT
  clear hT
  have hcap := h.cap
  have hmax := h.max
  obtain ⟨i0, hi, hz0, hz1, hz2⟩ := info_parts infoRun
  go_enter Tryd.func3, Tryd.ntmps3
  go_wp2_with fail
  refine (awake_true _).mono ?_
  rintro e w0 ⟨rfl, hb0⟩
  by_cases hn : 10 < ws.length
  · have hnz : (ws.length : Int) > 10 := by omega
    go_wp2_with fail
    refine (awake_true _).mono ?_
    rintro e w1 ⟨rfl, hb1⟩
    go_wp2
    go_ret
    exact ⟨rfl, ext_trans hb0 hb1⟩
  · have hnz : ¬ (ws.length : Int) > 10 := by omega
    go_wp2
    go_loopw [3, 4, 5, 6] (fun good sum was i wr => ∃ k : Nat, k ≤ ws.length ∧ i = .int .i64 k ∧ good = .bool (goodW (ws.take k)) ∧ sum = .int .i64 (sumW (ws.take k)) ∧ OwR wr w.heap.size was (ws.take k).flatten ∧ Hid (Jl ws k) ∧ Below w.heap.size w wr) (fun _ _ _ i _ => ws.length - (intOf i).toNat)
    case atStart => exact ⟨0, by omega, rfl, by rw [List.take_zero, goodW_nil], rfl, OwR.nil _ _, Jl.zero ws, hb0⟩
    case round =>
      obtain ⟨k, hk, rfl, rfl, rfl, ho, hj, hb⟩ := hrel
      by_cases hlt : k < ws.length
      · have hlz : (k : Int) < (ws.length : Int) := by omega
        obtain ⟨ad, B, d, rfl, hc, hr⟩ := (h.below hb).at_ hlt
        have hc0 := Lib.hid hc
        by_cases h60 : 60 < ws[k].length
        · have h60z : (ws[k].length : Int) > 60 := by omega
          go_wp2
          go_ret
          exact ⟨rfl, hb⟩
        · have h60z : ¬ (ws[k].length : Int) > 60 := by omega
          have hfm := fun W (hr : Rs W B d ws[k]) => formedF_any ws[k] (HT.out _ (List.getElem_mem hlt)) B d W hr
          obtain ⟨n, hnn⟩ : ∃ n, n = runsSum ws[k] := ⟨_, rfl⟩
          obtain ⟨g, hgg⟩ : ∃ g, g = runsOk ws[k] := ⟨_, rfl⟩
          rw [← hnn, ← hgg] at hfm
          have HN := Lib.hid hnn
          have HG := Lib.hid hgg
          clear hnn hgg
          go_wp2_with fail
          refine (hfm _ hr).mono ?_
          rintro e w1 ⟨rfl, hb1⟩
          clear hfm
          by_cases h58 : 288230376151711744 < n
          · go_wp2_with fail
            all_goals
              go_ret
              exact ⟨rfl, ext_trans hb hb1⟩
          · have hcw := (hb1.cell (World.block_lt_of_cell? wr _ hc)).trans hc
            have hb2 := ext_trans hb hb1
            have hj1 := hj.out.step hlt (by omega) (by rw [← HN.out]; omega)
            have HJ := Lib.hid hj1
            have hsw := hj.out.sum
            have hnn0 := runsSum_nonneg ws[k]
            have hw1 : IntKind.i64.wrap (sumW (ws.take k) + n) = sumW (ws.take k) + n := by rw [IntKind.wrap_i64]; rw [← HN.out] at hnn0; omega
            have hlen := hj.out.len
            have hsnoc := sumW_snoc (ws.take k) ws[k]
            have hgs := goodW_snoc (ws.take k) ws[k]
            have hfs := flat_snoc hlt
            rw [← take_snoc ws hlt, ← HN.out] at hsnoc
            rw [← take_snoc ws hlt, ← HG.out] at hgs
            have HS := Lib.hid hsnoc
            have HGS := Lib.hid hgs
            have HF := Lib.hid hfs
            obtain ⟨v3, w3, hr3, ho3, hg3⟩ := app_runs (P := Tryd.prog) w1 24 31 _ Tryd.underlying24 hi hz0 hz1 hz2 rfl u5 _ ws[k] (row_below ho hb1) (by have := hb2.size; omega) B d (hr.below hb1) (by omega)
            have hlo := ho.lt
            have hb3 := hb2.grown hg3 (by have := hb2.size; omega) (fun k e => (hlo k e).1)
            have HO := Lib.hid ho3
            clear hj1 hsw hnn0 hlen hsnoc hgs hfs ho3 hg3 hlo ho hj
            have hOR : OwR w3 w.heap.size v3 (ws.take (k + 1)).flatten := by rw [HF.out]; exact HO.out
            have HO3 := Lib.hid hOR
            have HGK : Hid (goodW (ws.take (k + 1)) = (goodW (ws.take k) && g)) := HGS
            clear hOR
            cases hgk : goodW (ws.take k) with
            | true =>
              have HGT := Lib.hid (HGK.out.trans (by rw [hgk]; rfl : _ = g))
              clear hgk
              go_wp2_with fail
              go_roundw
              case rel => exact ⟨k + 1, by omega, by go_num, by rw [HGT.out], by rw [HS.out], HO3.out, HJ, hb3⟩
              case measure => simp [intOf]; omega
            | false =>
              have HGT := Lib.hid (HGK.out.trans (by rw [hgk]; rfl : _ = false))
              clear hgk
              go_wp2_with fail
              go_roundw
              case rel => exact ⟨k + 1, by omega, by go_num, by rw [HGT.out], by rw [HS.out], HO3.out, HJ, hb3⟩
              case measure => simp [intOf]; omega
      · obtain rfl : k = ws.length := by omega
        have hlz : ¬ (ws.length : Int) < (ws.length : Int) := by omega
        rw [List.take_length] at ho
        obtain ⟨cat, hcat⟩ : ∃ cat, cat = ws.flatten := ⟨_, rfl⟩
        rw [← hcat] at ho
        have HCAT := Lib.hid hcat
        clear hcat
        obtain ⟨A2, c2, rfl, hwas, _⟩ := ho.sl
        have hwc := hwas.cap
        have hwm := hwas.max
        have hT1 := HT.out
        have hJC := join_any ws A c wr (h.below hb) hT1 (by omega) hj.out
        have HSZ := Lib.hid hj.out.len
        clear ho hT1
        go_wp2_with fail
        refine hJC.mono ?_
        rintro e w1 ⟨v, ev, rfl, hJ, hb1⟩
        have HJO := Lib.hid hJ
        have hbw := ext_trans hb hb1
        have hwas1 := hwas.below hb1
        have h1 := h.below hbw
        clear hJC hJ
        go_wp2
        go_loopw [11, 12] (fun at_ i wr2 => ∃ k : Nat, k ≤ ws.length ∧ i = .int .i64 k ∧ at_ = .int .i64 ((pre ws k : Nat) : Int) ∧ Below w1.heap.size w1 wr2) (fun _ i _ => ws.length - (intOf i).toNat)
        case atStart => exact ⟨0, by omega, rfl, rfl, Below.refl _ _⟩
        case round =>
          obtain ⟨k, hk2, rfl, rfl, hb2⟩ := hrel
          by_cases hlt : k < ws.length
          · have hlz2 : (k : Int) < (ws.length : Int) := by omega
            obtain ⟨ad, B, d, rfl, hc, hr⟩ := h1.at_ hlt
            have h60k : ws[k].length ≤ 60 := hj.out.short _ (by rw [List.take_length]; exact List.getElem_mem hlt)
            obtain ⟨F, hF⟩ : ∃ F, F = pre ws k := ⟨_, rfl⟩
            rw [← hF]
            have HFF := Lib.hid hF
            clear hF
            go_wp2
            go_loopw [11, 13] (fun at_ i wr3 => ∃ q : Nat, q ≤ ws[k].length ∧ i = .int .i64 q ∧ at_ = .int .i64 ((F + q : Nat) : Int) ∧ Below w1.heap.size w1 wr3) (fun _ i _ => ws[k].length - (intOf i).toNat)
            case atStart => exact ⟨0, by omega, rfl, rfl, hb2⟩
            case round =>
              obtain ⟨q, hq, rfl, rfl, hb3⟩ := hrel
              have hcq := (hb3.cell (World.block_lt_of_cell? w1 _ hc)).trans hc
              by_cases hql : q < ws[k].length
              · have hqz : (q : Int) < (ws[k].length : Int) := by omega
                obtain ⟨bd, rfl, r0, r1⟩ := (hr.below hb3).at_ hql
                obtain ⟨f1, f2, f3⟩ := flat_at hlt hql
                have hFx : (ws.take k).flatten.length = F := HFF.out.symm
                rw [hFx, ← HCAT.out] at f1 f2 f3
                clear hFx
                obtain ⟨t, ht⟩ : ∃ t, t = F + q := ⟨_, rfl⟩
                rw [← ht] at f1 f2 f3 ⊢
                obtain ⟨wd, rfl, s0, s1⟩ := (hwas1.below hb3).at_ f1
                rw [f2] at s0
                rw [f3] at s1
                have HTT := Lib.hid ht
                clear ht f2 f3
                go_wp2
                go_quiet (fail)
                go_wp2
                go_roundw
                case rel => exact ⟨q + 1, by omega, by go_num, by rw [HTT.out]; congr 1, below_drewN hb3 _⟩
                case measure => simp [intOf]; omega
              · obtain rfl : q = ws[k].length := by omega
                have hqz : ¬ (ws[k].length : Int) < (ws[k].length : Int) := by omega
                have hpp : F + ws[k].length = pre ws (k + 1) := by rw [pre_succ hlt, ← HFF.out]
                rw [hpp]
                have HPP := Lib.hid hpp
                clear hpp
                go_wp2
                go_roundw
                case rel => exact ⟨k + 1, by omega, by go_num, rfl, hb3⟩
                case measure => simp [intOf]; omega
          · obtain rfl : k = ws.length := by omega
            have hlz2 : ¬ (ws.length : Int) < (ws.length : Int) := by omega
            have hJ2 := HJO.out.below hb2
            have hfine := hj.out.fine
            have hws2 := h1.below hb2
            have h60 : ∀ x ∈ ws, x.length ≤ 60 := fun x hx => hj.out.short x (by rwa [List.take_length])
            have hbE := ext_trans hbw hb2
            have hjd := fun hf => joined (ws := ws) (by omega) hf
            obtain ⟨gd, hgd⟩ : ∃ gd, gd = goodW ws := ⟨_, rfl⟩
            unfold JOut at hJ2
            rcases hJ2 with ⟨g1, rfl, rfl⟩ | ⟨g1, g2, rfl, rfl⟩ | ⟨g1, g2, rfl, Aj, cj, rfl, g4⟩
            · go_wp2
              go_ret
              exact ⟨rfl, hbE⟩
            · have hRJ := refJoin_any ws A c wr hws2 (hfine g1) (by omega) h60
              obtain ⟨J, hJ⟩ : ∃ J, J = joinW [] ws := ⟨_, rfl⟩
              rw [← hJ] at hRJ g2
              have g2z : (J.length : Int) > 200 := by omega
              clear hJ hjd
              go_wp2_with fail
              refine hRJ.mono ?_
              rintro e w2 ⟨v2, rfl, ho2, hb3⟩
              obtain ⟨A3, c3, rfl, hs3, _⟩ := ho2.sl
              clear hRJ ho2
              go_wp2
              go_ret
              exact ⟨rfl, ext_trans hbE hb3⟩
            · have hRJ := refJoin_any ws A c wr hws2 (hfine g1) (by omega) h60
              have hjd2 := hjd (hfine g1)
              obtain ⟨J, hJ⟩ : ∃ J, J = joinW [] ws := ⟨_, rfl⟩
              rw [← hJ] at hRJ g2 g4 hjd2 ⊢
              have g2z : ¬ (J.length : Int) > 200 := by omega
              have hRF : RunsF J := ⟨hjd2.1, g2⟩
              have hSz := Lib.hid hjd2.2
              clear hJ hjd hjd2
              go_wp2_with fail
              refine hRJ.mono ?_
              rintro e w2 ⟨v2, rfl, ho2, hb3⟩
              obtain ⟨A3, c3, rfl, hs3, _⟩ := ho2.sl
              clear hRJ ho2
              have hSame := sameRuns_any J Aj A3 cj c3 w2 (g4.below hb3) hs3
              go_wp2_with fail
              refine hSame.mono ?_
              rintro e w3 ⟨rfl, hb4⟩
              have hSize := size_any J hRF Aj cj w3 ((g4.below hb3).below hb4)
              rw [hSz.out] at hSize
              go_wp2_with fail
              refine hSize.mono ?_
              rintro e w4 ⟨rfl, hb5⟩
              clear hSize hSame
              go_wp2
              go_ret
              exact ⟨rfl, ext_trans (ext_trans (ext_trans hbE hb3) hb4) hb5⟩
end Go.Proofs.YtbdgfbkhplhpkaaDoor
