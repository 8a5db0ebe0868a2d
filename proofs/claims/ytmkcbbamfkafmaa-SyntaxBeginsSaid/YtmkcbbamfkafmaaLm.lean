/- SyntaxBegins: the walk. -/
import Derived.Test.YtmkcbbamfkafmaaME
namespace Go.Proofs.Ytmkcbbamfkafmaa.P
open Go.RowKit Go.Proofs.Ytmkcbbamfkafmaa Go.Proofs.YtmkcbbamfkafmaaW.PrintWords Go.Proofs.YtmkcbbamfkafmaaW.PrintLast Go.Proofs.YtmkcbbamfkafmaaW.PrintMore
set_option linter.unusedVariables false
set_option linter.unusedSimpArgs false
attribute [local go_sem ↓] headG
theorem head_run (s : ByteArray) (n : Int) (h0 : 0 ≤ n) (h1 : n ≤ s.size) (W : World) : (HeadG 9 (.string s) (.int .i64 n)).run Try.prog W = .ok (.string (s.extract 0 n.toNat)) W := run_slice_string_h W _ s Try.underlying9 .i64 n h0 h1
set_option maxHeartbeats 2000000 in
theorem begins_any (s : ByteArray) (w : World) : Calls Try.prog 5 #[.string s] w fun e w' => e = .returned (.bool true) ∧ Below w.heap.size w w' := by
  go_enter Try.func5, Try.ntmps5
  go_wp2_with fail
  refine (awake_any _).mono ?_
  rintro x w1 ⟨rfl, hb1⟩
  by_cases hs : s.size > 400
  · have hz : (s.size : Int) > 400 := by omega
    go_wp2_with fail
    refine (awake_any _).mono ?_
    rintro x w2 ⟨rfl, hb2⟩
    go_wp2
    go_ret
    exact ⟨rfl, ext_trans hb1 hb2⟩
  · have hz : ¬ (s.size : Int) > 400 := by omega
    go_wp2_with fail
    refine (parse_q s w1).mono ?_
    rintro x w2 ⟨tk, t0, t1, t2, t3, tps, tlo, thi, A, c, pl, e, rfl, hp, hT, hb2⟩
    have hbw := ext_trans hb1 hb2
    have hfn := parse_fn (s := s)
    rw [hp.out] at hfn
    dsimp only at hfn
    have HFN := Lib.hid hfn
    clear hfn hb1 hb2 hT
    by_cases he : e = 2
    · subst he
      have hpl : 0 ≤ pl ∧ pl ≤ (s.size : Int) := by
        rcases HFN.out with h | h | h
        · omega
        · omega
        · exact h.2
      have h1 : ¬ pl < 0 := by omega
      have h2 : ¬ pl > (s.size : Int) := by omega
      obtain ⟨p, hpe⟩ : ∃ p, p = s.extract 0 pl.toNat := ⟨_, rfl⟩
      have hh : ∀ W, (HeadG 9 (.string s) (.int .i64 pl)).run Try.prog W = .ok (.string p) W := fun W => by rw [hpe]; exact head_run s pl hpl.1 hpl.2 W
      obtain ⟨hag, hps⟩ := pre_ag s pl.toNat (by omega)
      rw [← hpe] at hag hps
      have hbg := begins hag (by omega) (by rw [hp.out]) (by rw [hp.out]; dsimp only; omega)
      have HBG := Lib.hid hbg
      have HPS := Lib.hid hps
      have hpl2 := hpl.1
      clear hpl hag hps hbg hpe
      go_wp2_with fail
      refine (parse_q p _).mono ?_
      rintro x w3 ⟨tk', t0', t1', t2', t3', tps', tlo', thi', A', c', pl', e', rfl, hp', hT', hb3⟩
      have hbF := (hbw.alloc hbw.size (.cells #[.int .i64 tk, .int .u64 t0, .int .u64 t1, .int .u64 t2, .int .u64 t3, .slice A tps.length c, .int .i64 tlo, .int .i64 thi] 28))
      have hbG := ext_trans hbF hb3
      have hb0 := HBG.out
      rw [hp'.out] at hb0
      dsimp only at hb0
      by_cases e0 : e' = 0
      · subst e0
        clear hb0
        go_wp2
        go_ret
        exact ⟨rfl, hbG.alloc hbG.size _⟩
      by_cases e3 : e' = 3
      · subst e3
        clear hb0
        go_wp2
        go_ret
        exact ⟨rfl, hbG.alloc hbG.size _⟩
      have hpp : pl' = pl := by
        have := HPS.out
        rcases hb0 with h | h | h
        · exact absurd h e0
        · exact absurd h e3
        · omega
      subst hpp
      have z0 : (e' == 0) = false := by simpa using e0
      have z3 : (e' == 3) = false := by simpa using e3
      clear hb0
      go_wp2
      go_ret
      exact ⟨rfl, hbG.alloc hbG.size _⟩
    · have hb9 := hbw.alloc hbw.size (.cells #[.int .i64 tk, .int .u64 t0, .int .u64 t1, .int .u64 t2, .int .u64 t3, .slice A tps.length c, .int .i64 tlo, .int .i64 thi] 28)
      have h03 : e = 0 ∨ e = 3 := by
        rcases HFN.out with h | h | h
        · exact .inl h
        · exact .inr h
        · exact absurd h.1 he
      rcases h03 with rfl | rfl
      · go_wp2
        go_ret
        exact ⟨rfl, hb9⟩
      · go_wp2
        go_ret
        exact ⟨rfl, hb9⟩
end Go.Proofs.Ytmkcbbamfkafmaa.P
