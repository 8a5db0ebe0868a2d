/- The walk of the statement PlaceMaps. -/
import Derived.Test.YtlnhiogpjdhhbaaL05c
import Derived.Test.YtlnhiogpjdhhbaaL05e
namespace Go.Proofs.Ytlnhiogpjdhhbaa.P
open Go.RowKit Go.Proofs.YtlnhiogpjdhhbaaW.PrintWords Go.Proofs.YtlnhiogpjdhhbaaW.PrintLast Go.Proofs.YtlnhiogpjdhhbaaW.PrintMore
set_option linter.unusedVariables false
set_option linter.unusedSimpArgs false
theorem rof_fine (x : S27) (A : Option Addr) (c : Nat) (w : World) (hf : formedT x = true) (hc : cntT x ≤ 10000) (hb : bigM (ofM x) = false) (h : Tr w x A c) : Calls Try.prog 14 #[ndV x A c] w fun e w' =>
    ∃ At ct A1 c1 A2 c2 A3 c3, e = .returned (.tuple #[.agg #[.int .i64 (simpleT x).f0, .int .u64 (simpleT x).f1.f0, .int .u64 (simpleT x).f1.f1, .int .u64 (simpleT x).f1.f2, .int .u64 (simpleT x).f1.f3, .slice At (simpleT x).f2.length ct, .int .i64 (simpleT x).f3, .int .i64 (simpleT x).f4, .slice A1 (ofM x).sets.length c1, .slice A2 (ofM x).scs.length c2, .slice A3 (ofM x).ars.length c3], .int .i64 0]) ∧ MapOut w' (simpleT x) (ofM x) At ct A1 c1 A2 c2 A3 c3 ∧ Below w.heap.size w w' := by
  refine (rof_ok x A c w hf hc h).mono ?_
  rintro e w' ⟨hx, hb'⟩
  obtain ⟨_, g, At, ct, v1, v2, v3, ps, rfl, htr, hm⟩ := hx.resolve_left (fun ⟨a, _⟩ => by rw [hb] at a; cases a)
  have hps : ps.length = (ofM x).ars.length := by
    have := congrArg List.length hm.lists
    simpa using this
  obtain ⟨A1, c1, rfl⟩ := row_form hm.sets
  obtain ⟨A2, c2, rfl⟩ := row_form hm.scs
  obtain ⟨A3, c3, rfl⟩ := row_form hm.ars
  rw [hps] at hm
  exact ⟨At, ct, A1, c1, A2, c2, A3, c3, by rw [hps]; rfl, ⟨htr, g, _, ps, hm⟩, hb'⟩
theorem rof_long (x : S27) (A : Option Addr) (c : Nat) (w : World) (hf : formedT x = true) (hc : cntT x ≤ 10000) (hb : bigM (ofM x) = true) (h : Tr w x A c) : Calls Try.prog 14 #[ndV x A c] w fun e w' =>
    e = .returned (.tuple #[zMapV, .int .i64 3]) ∧ Below w.heap.size w w' := by
  refine (rof_ok x A c w hf hc h).mono ?_
  rintro e w' ⟨hx, hb'⟩
  exact ⟨(hx.resolve_right (fun ⟨a, _⟩ => by rw [hb] at a; cases a)).2, hb'⟩

theorem scC_len (l : List (Int × Int)) : (scC l).length = l.length * 2 := by
  induction l with
  | nil => rfl
  | cons s l ih =>
    unfold scC at ih ⊢
    rw [List.flatMap_cons, List.length_append, ih]
    simp; omega
theorem scC_get : ∀ (l : List (Int × Int)) (i : Nat) (hi : i < l.length), (scC l)[i * 2]? = some (.int .i64 l[i].1) ∧ (scC l)[i * 2 + 1]? = some (.int .i64 l[i].2)
  | [], i, hi => by simp at hi
  | s :: l, 0, _ => ⟨rfl, rfl⟩
  | s :: l, i + 1, hi => by
    have h := scC_get l i (by simp at hi; omega)
    have e : scC (s :: l) = [.int .i64 s.1, .int .i64 s.2] ++ scC l := rfl
    rw [e]
    have k : ∀ j, ([Value.int .i64 s.1, .int .i64 s.2] ++ scC l)[(i + 1) * 2 + j]? = (scC l)[i * 2 + j]? := fun j => by
      rw [List.getElem?_append_right (by simp; omega)]
      congr 1
      simp; omega
    simp only [List.getElem_cons_succ]
    exact ⟨(k 0).trans h.1, (k 1).trans h.2⟩
theorem MapOut.sc_at {w : World} {t : S27} {M : Mp} {At : Option Addr} {ct : Nat} {A1 : Option Addr} {c1 : Nat} {A2 : Option Addr} {c2 : Nat} {A3 : Option Addr} {c3 : Nat} (h : MapOut w t M At ct A1 c1 A2 c2 A3 c3) {i : Nat} (hi : i < M.scs.length) :
    ∃ g2, A2 = some ⟨g2, 0, none⟩ ∧ w.cell? ⟨g2, i * 2, none⟩ = some (.int .i64 M.scs[i].1) ∧ w.cell? ⟨g2, i * 2 + 1, none⟩ = some (.int .i64 M.scs[i].2) := by
  obtain ⟨g, base, ps, hm⟩ := h.ex
  have hs := hm.scs
  obtain ⟨n1, hn1⟩ : ∃ n1, M.scs.length = n1 + 1 := ⟨M.scs.length - 1, by omega⟩
  rw [hn1] at hs
  obtain ⟨g2, cc2, e2⟩ := ownsRow_succ hs
  injection e2 with e2 _ _
  subst e2
  obtain ⟨k0, k1⟩ := scC_get M.scs i hi
  have hl := scC_len M.scs
  exact ⟨g2, rfl, (hs.cellAt _ (by omega)).trans k0, (hs.cellAt _ (by omega)).trans k1⟩
set_option maxHeartbeats 8000000 in
set_option maxRecDepth 100000 in
theorem placeMaps_any (x : S27) (A : Option Addr) (c : Nat) (w : World) (h : Tr w x A c) :
    Calls Try.prog 4 #[ndV x A c] w fun e w' => e = .returned (.bool true) ∧ Below w.heap.size w w' := by
  obtain ⟨s, s1, s3, hsz⟩ := tr_size x A c w 150 (by omega) (by omega) h
  have bx0 : Bx w.heap.size x A c (w.alloc (.cells #[.int .i64 x.f0, .int .u64 x.f1.f0, .int .u64 x.f1.f1, .int .u64 x.f1.f2, .int .u64 x.f1.f3, .slice A x.f2.length c, .int .i64 x.f3, .int .i64 x.f4] 27)) := ⟨heap_alloc_new w _, h.alloc _⟩
  have st0 := (St.refl w).alloc (.cells #[.int .i64 x.f0, .int .u64 x.f1.f0, .int .u64 x.f1.f1, .int .u64 x.f1.f2, .int .u64 x.f1.f3, .slice A x.f2.length c, .int .i64 x.f3, .int .i64 x.f4] 27)
  unfold ndV at *
  go_enter Try.func4, Try.ntmps4
  go_wp2_with fail
  refine (awake_any _).mono ?_
  rintro e w1 ⟨rfl, hb1⟩
  have bx1 := bx0.later hb1
  have st1 := st0.later hb1
  clear bx0 st0 hb1
  obtain ⟨c0, c1, c2, c3, c4, c5, c6, c7, z0, z1, z2, z3, z4, z5, z6, z7⟩ := n_cells bx1.blk
  go_wp2_with fail
  refine (hsz w1 bx1.tr).mono ?_
  rintro e w2 ⟨rfl, hb2⟩
  have bx2 := bx1.later hb2
  have st2 := st1.later hb2
  clear bx1 st1 hb2 c0 c1 c2 c3 c4 c5 c6 c7 z0 z1 z2 z3 z4 z5 z6 z7
  obtain ⟨c0, c1, c2, c3, c4, c5, c6, c7, z0, z1, z2, z3, z4, z5, z6, z7⟩ := n_cells bx2.blk
  by_cases hbig : 150 < s
  · go_wp2_with fail
    refine (awake_any _).mono ?_
    rintro e w3 ⟨rfl, hb3⟩
    go_wp2
    go_ret
    exact ⟨rfl, (st2.later hb3).ext⟩
  have hcn : (cntT x : Int) ≤ 150 := by have := s3 (.inl (by omega)); omega
  clear s3 hsz
  cases hF : formedT x with
  | false =>
    have hof := of_arg x A c w2 hF bx2.tr
    unfold ndV zMapV at hof
    go_wp2_with fail
    refine hof.mono ?_
    rintro e w3 ⟨rfl, hb3⟩
    have bx3 := (bx2.later hb3).alloc (.cells #[.int .i64 0, .int .u64 0, .int .u64 0, .int .u64 0, .int .u64 0, .slice none 0 0, .int .i64 0, .int .i64 0, .slice none 0 0, .slice none 0 0, .slice none 0 0] 34)
    have st3 := (st2.later hb3).alloc (.cells #[.int .i64 0, .int .u64 0, .int .u64 0, .int .u64 0, .int .u64 0, .slice none 0 0, .int .i64 0, .int .i64 0, .slice none 0 0, .slice none 0 0, .slice none 0 0] 34)
    have hz3 := heap_alloc_new w3 (.cells #[.int .i64 0, .int .u64 0, .int .u64 0, .int .u64 0, .int .u64 0, .slice none 0 0, .int .i64 0, .int .i64 0, .slice none 0 0, .slice none 0 0, .slice none 0 0] 34)
    clear bx2 st2 hb3 c0 c1 c2 c3 c4 c5 c6 c7 z0 z1 z2 z3 z4 z5 z6 z7 hof
    obtain ⟨cc0, cc1, cc2, cc3, cc4, cc5, cc6, cc7, z0, z1, z2, z3, z4, z5, z6, z7⟩ := n_cells bx3.blk
    have hfm := tr_formed x A c _ (by omega) bx3.tr
    rw [hF] at hfm
    unfold ndV at hfm
    go_wp2_with fail
    refine hfm.mono ?_
    rintro e w4 ⟨rfl, hb4⟩
    have hz4 := blk_below hz3 hb4
    have st4 := st3.later hb4
    clear bx3 st3 hz3 hb4 cc0 cc1 cc2 cc3 cc4 cc5 cc6 cc7 z0 z1 z2 z3 z4 z5 z6 z7 hfm
    obtain ⟨p0, p1, p2, p3, p4, p5, p6, p7, p8, p9, p10, pz0, pz1, pz2, pz3, pz4, pz5, pz6, pz7, pz8, pz9, pz10⟩ := m_cells hz4
    go_wp2
    go_ret
    exact ⟨rfl, st4.ext⟩
  | true =>
  cases hB : bigM (ofM x) with
  | true =>
    have hof := of_long x A c w2 hF (by omega) hB bx2.tr
    unfold ndV zMapV at hof
    go_wp2_with fail
    refine hof.mono ?_
    rintro e w3 ⟨rfl, hb3⟩
    have bx3 := (bx2.later hb3).alloc (.cells #[.int .i64 0, .int .u64 0, .int .u64 0, .int .u64 0, .int .u64 0, .slice none 0 0, .int .i64 0, .int .i64 0, .slice none 0 0, .slice none 0 0, .slice none 0 0] 34)
    have st3 := (st2.later hb3).alloc (.cells #[.int .i64 0, .int .u64 0, .int .u64 0, .int .u64 0, .int .u64 0, .slice none 0 0, .int .i64 0, .int .i64 0, .slice none 0 0, .slice none 0 0, .slice none 0 0] 34)
    have hz3 := heap_alloc_new w3 (.cells #[.int .i64 0, .int .u64 0, .int .u64 0, .int .u64 0, .int .u64 0, .slice none 0 0, .int .i64 0, .int .i64 0, .slice none 0 0, .slice none 0 0, .slice none 0 0] 34)
    clear bx2 st2 hb3 c0 c1 c2 c3 c4 c5 c6 c7 z0 z1 z2 z3 z4 z5 z6 z7 hof
    obtain ⟨cc0, cc1, cc2, cc3, cc4, cc5, cc6, cc7, z0, z1, z2, z3, z4, z5, z6, z7⟩ := n_cells bx3.blk
    have hfm := tr_formed x A c _ (by omega) bx3.tr
    rw [hF] at hfm
    unfold ndV at hfm
    go_wp2_with fail
    refine hfm.mono ?_
    rintro e w4 ⟨rfl, hb4⟩
    have hz4 := blk_below hz3 hb4
    have st4 := st3.later hb4
    have bx4 := bx3.later hb4
    clear bx3 st3 hz3 hb4 cc0 cc1 cc2 cc3 cc4 cc5 cc6 cc7 z0 z1 z2 z3 z4 z5 z6 z7 hfm
    obtain ⟨cc0, cc1, cc2, cc3, cc4, cc5, cc6, cc7, z0, z1, z2, z3, z4, z5, z6, z7⟩ := n_cells bx4.blk
    have hof := rof_long x A c w4 hF (by omega) hB bx4.tr
    unfold ndV zMapV at hof
    go_wp2_with fail
    refine hof.mono ?_
    rintro e w5 ⟨rfl, hb5⟩
    have hz5 := blk_alloc (blk_below hz4 hb5) (.cells #[.int .i64 0, .int .u64 0, .int .u64 0, .int .u64 0, .int .u64 0, .slice none 0 0, .int .i64 0, .int .i64 0, .slice none 0 0, .slice none 0 0, .slice none 0 0] 34)
    have hy5 := heap_alloc_new w5 (.cells #[.int .i64 0, .int .u64 0, .int .u64 0, .int .u64 0, .int .u64 0, .slice none 0 0, .int .i64 0, .int .i64 0, .slice none 0 0, .slice none 0 0, .slice none 0 0] 34)
    have st5 := (st4.later hb5).alloc (.cells #[.int .i64 0, .int .u64 0, .int .u64 0, .int .u64 0, .int .u64 0, .slice none 0 0, .int .i64 0, .int .i64 0, .slice none 0 0, .slice none 0 0, .slice none 0 0] 34)
    clear bx4 st4 hb5 hz4 cc0 cc1 cc2 cc3 cc4 cc5 cc6 cc7 z0 z1 z2 z3 z4 z5 z6 z7 hof
    have hq := tr_same zT zT none none 0 0 (w5.alloc (.cells #[.int .i64 0, .int .u64 0, .int .u64 0, .int .u64 0, .int .u64 0, .slice none 0 0, .int .i64 0, .int .i64 0, .slice none 0 0, .slice none 0 0, .slice none 0 0] 34)) (by decide +kernel) (Tr.nil _ _ _ _ _) (Tr.nil _ _ _ _ _)
    rw [same_refl zT] at hq
    unfold ndV zT at hq
    obtain ⟨p0, p1, p2, p3, p4, p5, p6, p7, p8, p9, p10, pz0, pz1, pz2, pz3, pz4, pz5, pz6, pz7, pz8, pz9, pz10⟩ := m_cells hz5
    obtain ⟨q0, q1, q2, q3, q4, q5, q6, q7, q8, q9, q10, qz0, qz1, qz2, qz3, qz4, qz5, qz6, qz7, qz8, qz9, qz10⟩ := m_cells hy5
    go_wp2_with fail
    refine hq.mono ?_
    rintro e w6 ⟨rfl, hb6⟩
    have hz6 := blk_below hz5 hb6
    have hy6 := blk_below hy5 hb6
    have st6 := st5.later hb6
    clear hz5 hy5 st5 hb6 hq p0 p1 p2 p3 p4 p5 p6 p7 p8 p9 p10 pz0 pz1 pz2 pz3 pz4 pz5 pz6 pz7 pz8 pz9 pz10 q0 q1 q2 q3 q4 q5 q6 q7 q8 q9 q10 qz0 qz1 qz2 qz3 qz4 qz5 qz6 qz7 qz8 qz9 qz10
    obtain ⟨p0, p1, p2, p3, p4, p5, p6, p7, p8, p9, p10, pz0, pz1, pz2, pz3, pz4, pz5, pz6, pz7, pz8, pz9, pz10⟩ := m_cells hz6
    obtain ⟨q0, q1, q2, q3, q4, q5, q6, q7, q8, q9, q10, qz0, qz1, qz2, qz3, qz4, qz5, qz6, qz7, qz8, qz9, qz10⟩ := m_cells hy6
    go_wp2
    go_loopw [7] (fun i wr => i = .int .i64 0 ∧ wr = w6) (fun i _ => 0)
    case atStart => exact ⟨rfl, rfl⟩
    case round =>
      obtain ⟨rfl, rfl⟩ := hrel
      go_wp2
      go_loopw [8] (fun i wv => i = .int .i64 0 ∧ wv = wr) (fun i _ => 0)
      case atStart => exact ⟨rfl, rfl⟩
      case round =>
        obtain ⟨rfl, rfl⟩ := hrel
        go_wp2
        go_ret
        exact ⟨rfl, st6.ext⟩
  | false =>
    have hof := of_fine x A c w2 hF (by omega) hB bx2.tr
    unfold ndV at hof
    go_wp2_with fail
    refine hof.mono ?_
    rintro e w3 ⟨At, ct, A1, c1, A2, c2, A3, c3, rfl, hmo, hb3⟩
    have bx3 := (bx2.later hb3).alloc (.cells #[.int .i64 (simpleT x).f0, .int .u64 (simpleT x).f1.f0, .int .u64 (simpleT x).f1.f1, .int .u64 (simpleT x).f1.f2, .int .u64 (simpleT x).f1.f3, .slice At (simpleT x).f2.length ct, .int .i64 (simpleT x).f3, .int .i64 (simpleT x).f4, .slice A1 (ofM x).sets.length c1, .slice A2 (ofM x).scs.length c2, .slice A3 (ofM x).ars.length c3] 34)
    have st3 := (st2.later hb3).alloc (.cells #[.int .i64 (simpleT x).f0, .int .u64 (simpleT x).f1.f0, .int .u64 (simpleT x).f1.f1, .int .u64 (simpleT x).f1.f2, .int .u64 (simpleT x).f1.f3, .slice At (simpleT x).f2.length ct, .int .i64 (simpleT x).f3, .int .i64 (simpleT x).f4, .slice A1 (ofM x).sets.length c1, .slice A2 (ofM x).scs.length c2, .slice A3 (ofM x).ars.length c3] 34)
    have ma3 : Mb w3.heap.size (simpleT x) (ofM x) At ct A1 c1 A2 c2 A3 c3 (w3.alloc (.cells #[.int .i64 (simpleT x).f0, .int .u64 (simpleT x).f1.f0, .int .u64 (simpleT x).f1.f1, .int .u64 (simpleT x).f1.f2, .int .u64 (simpleT x).f1.f3, .slice At (simpleT x).f2.length ct, .int .i64 (simpleT x).f3, .int .i64 (simpleT x).f4, .slice A1 (ofM x).sets.length c1, .slice A2 (ofM x).scs.length c2, .slice A3 (ofM x).ars.length c3] 34)) := ⟨heap_alloc_new w3 _, hmo.later ((Below.refl _ w3).alloc (Nat.le_refl _) _)⟩
    clear bx2 st2 hb3 c0 c4 c5 c6 c7 z0 z1 z2 z3 z4 z5 z6 z7 hof hmo
    obtain ⟨cc0, cc1, cc2, cc3, cc4, cc5, cc6, cc7, z0, z1, z2, z3, z4, z5, z6, z7⟩ := n_cells bx3.blk
    have hfm := tr_formed x A c _ (by omega) bx3.tr
    rw [hF] at hfm
    unfold ndV at hfm
    go_wp2_with fail
    refine hfm.mono ?_
    rintro e w4 ⟨rfl, hb4⟩
    have ma4 := ma3.later hb4
    have st4 := st3.later hb4
    have bx4 := bx3.later hb4
    clear bx3 st3 ma3 hb4 cc0 cc1 cc2 cc3 cc4 cc5 cc6 cc7 z0 z1 z2 z3 z4 z5 z6 z7 hfm
    obtain ⟨cc0, cc1, cc2, cc3, cc4, cc5, cc6, cc7, z0, z1, z2, z3, z4, z5, z6, z7⟩ := n_cells bx4.blk
    have hof := rof_fine x A c w4 hF (by omega) hB bx4.tr
    unfold ndV at hof
    go_wp2_with fail
    refine hof.mono ?_
    rintro e w5 ⟨Atb, ctb, A1b, c1b, A2b, c2b, A3b, c3b, rfl, hmo, hb5⟩
    have ma5 := (ma4.later hb5).alloc (.cells #[.int .i64 (simpleT x).f0, .int .u64 (simpleT x).f1.f0, .int .u64 (simpleT x).f1.f1, .int .u64 (simpleT x).f1.f2, .int .u64 (simpleT x).f1.f3, .slice Atb (simpleT x).f2.length ctb, .int .i64 (simpleT x).f3, .int .i64 (simpleT x).f4, .slice A1b (ofM x).sets.length c1b, .slice A2b (ofM x).scs.length c2b, .slice A3b (ofM x).ars.length c3b] 34)
    have mb5 : Mb w5.heap.size (simpleT x) (ofM x) Atb ctb A1b c1b A2b c2b A3b c3b (w5.alloc (.cells #[.int .i64 (simpleT x).f0, .int .u64 (simpleT x).f1.f0, .int .u64 (simpleT x).f1.f1, .int .u64 (simpleT x).f1.f2, .int .u64 (simpleT x).f1.f3, .slice Atb (simpleT x).f2.length ctb, .int .i64 (simpleT x).f3, .int .i64 (simpleT x).f4, .slice A1b (ofM x).sets.length c1b, .slice A2b (ofM x).scs.length c2b, .slice A3b (ofM x).ars.length c3b] 34)) := ⟨heap_alloc_new w5 _, hmo.later ((Below.refl _ w5).alloc (Nat.le_refl _) _)⟩
    have st5 := (st4.later hb5).alloc (.cells #[.int .i64 (simpleT x).f0, .int .u64 (simpleT x).f1.f0, .int .u64 (simpleT x).f1.f1, .int .u64 (simpleT x).f1.f2, .int .u64 (simpleT x).f1.f3, .slice Atb (simpleT x).f2.length ctb, .int .i64 (simpleT x).f3, .int .i64 (simpleT x).f4, .slice A1b (ofM x).sets.length c1b, .slice A2b (ofM x).scs.length c2b, .slice A3b (ofM x).ars.length c3b] 34)
    clear bx4 st4 hb5 ma4 cc0 cc1 cc2 cc3 cc4 cc5 cc6 cc7 z0 z1 z2 z3 z4 z5 z6 z7 hof hmo
    have hcs : cntT (simpleT x) ≤ 10000 := by have := (simpleT_ok _ x (Nat.lt_succ_self _) (ok_formed hF)).2; omega
    have hq := tr_same (simpleT x) (simpleT x) At Atb ct ctb _ (by omega) ma5.out.tr mb5.out.tr
    rw [same_refl] at hq
    unfold ndV at hq
    obtain ⟨p0, p1, p2, p3, p4, p5, p6, p7, p8, p9, p10, pz0, pz1, pz2, pz3, pz4, pz5, pz6, pz7, pz8, pz9, pz10⟩ := m_cells ma5.blk
    obtain ⟨q0, q1, q2, q3, q4, q5, q6, q7, q8, q9, q10, qz0, qz1, qz2, qz3, qz4, qz5, qz6, qz7, qz8, qz9, qz10⟩ := m_cells mb5.blk
    go_wp2_with fail
    refine hq.mono ?_
    rintro e w6 ⟨rfl, hb6⟩
    have ma6 := ma5.later hb6
    have mb6 := mb5.later hb6
    have st6 := st5.later hb6
    clear ma5 mb5 st5 hb6 hq p0 p1 p2 p3 p4 p5 p6 p7 p8 p9 p10 pz0 pz1 pz2 pz3 pz4 pz5 pz6 pz7 pz8 pz9 pz10 q0 q1 q2 q3 q4 q5 q6 q7 q8 q9 q10 qz0 qz1 qz2 qz3 qz4 qz5 qz6 qz7 qz8 qz9 qz10
    have hlen := ofM_len x
    have hshort := big_short hB
    have HS := Lib.hid hshort
    have hfew := big_few hB
    clear hshort
    have hscs : (ofM x).scs.length ≤ 10000 := by
      have h1 := (walkT_le [] (simpleT x) m0).scs
      have h2 : m0.scs.length = 0 := rfl
      unfold ofM
      omega
    generalize simpleT x = t at *
    generalize ofM x = M at *
    obtain ⟨p0, p1, p2, p3, p4, p5, p6, p7, p8, p9, p10, pz0, pz1, pz2, pz3, pz4, pz5, pz6, pz7, pz8, pz9, pz10⟩ := m_cells ma6.blk
    obtain ⟨q0, q1, q2, q3, q4, q5, q6, q7, q8, q9, q10, qz0, qz1, qz2, qz3, qz4, qz5, qz6, qz7, qz8, qz9, qz10⟩ := m_cells mb6.blk
    go_wp2
    go_loopw [7] (fun i wr => ∃ k : Nat, k ≤ M.sets.length ∧ i = .int .i64 k ∧ Mb w3.heap.size t M At ct A1 c1 A2 c2 A3 c3 wr ∧ Mb w5.heap.size t M Atb ctb A1b c1b A2b c2b A3b c3b wr ∧ St w wr) (fun i _ => M.sets.length - (intOf i).toNat)
    case atStart => exact ⟨0, by omega, rfl, ma6, mb6, st6⟩
    case round =>
      obtain ⟨k, hk, rfl, ma, mb, st⟩ := hrel
      clear q0 q1 q2 q3 q4 q5 q6 q7 q8 q9 q10 qz0 qz1 qz2 qz3 qz4 qz5 qz6 qz7 qz8 qz9 qz10
      clear p0 p1 p2 p3 p4 p5 p6 p7 p8 p9 p10 pz0 pz1 pz2 pz3 pz4 pz5 pz6 pz7 pz8 pz9 pz10
      obtain ⟨p0, p1, p2, p3, p4, p5, p6, p7, p8, p9, p10, pz0, pz1, pz2, pz3, pz4, pz5, pz6, pz7, pz8, pz9, pz10⟩ := m_cells ma.blk
      obtain ⟨q0, q1, q2, q3, q4, q5, q6, q7, q8, q9, q10, qz0, qz1, qz2, qz3, qz4, qz5, qz6, qz7, qz8, qz9, qz10⟩ := m_cells mb.blk
      by_cases hlt : k < M.sets.length
      · obtain ⟨g1, g3, B, d, e1, e3, s0, s1, s2, s3, l0, lc, ld⟩ := ma.out.at_ hlt (by omega)
        obtain ⟨g1b, g3b, Bb, db, e1b, e3b, s0b, s1b, s2b, s3b, l0b, lcb, ldb⟩ := mb.out.at_ hlt (by omega)
        have hl4 : M.ars[k].length ≤ 4 := HS.out _ (List.getElem_mem _)
        generalize M.ars[k] = l at *
        generalize M.sets[k] = y at *
        subst e1 e3 e1b e3b
        have hsi := fun dd os => Calls.regrown_of (tr_sameInts l (by omega) B Bb d db (Go.Sort.grow (redrawn wr dd) os) (Kd.C_below lc (below_regrown wr dd os)) ld (Kd.C_below lcb (below_regrown wr dd os)) ldb)
        have kp8 := cell_regrown p8
        have kp10 := cell_regrown p10
        have kq8 := cell_regrown q8
        have kq10 := cell_regrown q10
        have ks0 := cell_regrown s0
        have ks1 := cell_regrown s1
        have ks2 := cell_regrown s2
        have ks3 := cell_regrown s3
        have ks0b := cell_regrown s0b
        have ks1b := cell_regrown s1b
        have ks2b := cell_regrown s2b
        have ks3b := cell_regrown s3b
        have kl0 := cell_regrown l0
        have kl0b := cell_regrown l0b
        have heq := fun (w : World) => eqA24 9998 w y.f0 y.f0 y.f1 y.f1 y.f2 y.f2 y.f3 y.f3
        have hkz : (k : Int) < (M.sets.length : Int) := by omega
        have hkz2 : (k : Int) < (M.ars.length : Int) := by omega
        have ma' := fun dd os => ma.later (below_regrown wr dd os)
        have mb' := fun dd os => mb.later (below_regrown wr dd os)
        have st' := fun dd os => st.later (below_regrown wr dd os)
        go_wp2_with fail
        clear ma mb st p0 p1 p2 p3 p4 p5 p6 p7 p9 q0 q1 q2 q3 q4 q5 q6 q7 q9 pz0 pz1 pz2 pz3 pz4 pz5 pz6 pz7 pz8 pz9 pz10 qz0 qz1 qz2 qz3 qz4 qz5 qz6 qz7 qz8 qz9 qz10 lc lcb
        refine wp_region_quiet_below (by kernel_rfl) (by kernel_rfl) ?_
        repeat (quiet_step (fail))
        quiet_step (exact hsi _ _)
        repeat (quiet_step (fail))
        refine wpQuiet_nil ?_
        intro _ hw'
        obtain ⟨⟨dq, osq⟩, hw''⟩ := hw'
        subst hw''
        have ma7 := ma' dq osq
        have mb7 := mb' dq osq
        have st7 := st' dq osq
        clear ma' mb' st' kp8 kp10 kq8 kq10 ks0 ks1 ks2 ks3 ks0b ks1b ks2b ks3b kl0 kl0b hsi heq
        go_wp2
        go_roundw
        case rel => exact ⟨k + 1, by omega, by go_num, ma7, mb7, st7⟩
        case measure => simp [intOf]; omega
      · have hke : k = M.sets.length := by omega
        have HK := Lib.hid hke
        have hkz : ¬ (k : Int) < (M.sets.length : Int) := by omega
        clear hke
        go_wp2
        go_loopw [8] (fun i wv => ∃ j : Nat, j ≤ M.scs.length ∧ i = .int .i64 j ∧ Mb w3.heap.size t M At ct A1 c1 A2 c2 A3 c3 wv ∧ Mb w5.heap.size t M Atb ctb A1b c1b A2b c2b A3b c3b wv ∧ St w wv) (fun i _ => M.scs.length - (intOf i).toNat)
        case atStart => exact ⟨0, by omega, rfl, ma, mb, st⟩
        case round =>
          clear p0 p1 p2 p3 p4 p5 p6 p7 p8 p9 p10 pz0 pz1 pz2 pz3 pz4 pz5 pz6 pz7 pz8 pz9 pz10 q0 q1 q2 q3 q4 q5 q6 q7 q8 q9 q10 qz0 qz1 qz2 qz3 qz4 qz5 qz6 qz7 qz8 qz9 qz10 ma mb st
          obtain ⟨j, hj, rfl, ma, mb, st⟩ := hrel
          obtain ⟨p0, p1, p2, p3, p4, p5, p6, p7, p8, p9, p10, pz0, pz1, pz2, pz3, pz4, pz5, pz6, pz7, pz8, pz9, pz10⟩ := m_cells ma.blk
          obtain ⟨q0, q1, q2, q3, q4, q5, q6, q7, q8, q9, q10, qz0, qz1, qz2, qz3, qz4, qz5, qz6, qz7, qz8, qz9, qz10⟩ := m_cells mb.blk
          by_cases hlj : j < M.scs.length
          · obtain ⟨g2, e2, s0, s1⟩ := ma.out.sc_at hlj
            obtain ⟨g2b, e2b, s0b, s1b⟩ := mb.out.sc_at hlj
            generalize M.scs[j] = y at *
            subst e2 e2b
            have hjz : (j : Int) < (M.scs.length : Int) := by omega
            go_wp2_with fail
            go_quiet (fail)
            have ma' := ma.later (pw_below_drewN (Below.refl _ wr) nq)
            have mb' := mb.later (pw_below_drewN (Below.refl _ wr) nq)
            have st' := st.later (pw_below_drewN (Below.refl _ wr) nq)
            clear ma mb st
            go_wp2
            go_roundw
            case rel => exact ⟨j + 1, by omega, by go_num, ma', mb', st'⟩
            case measure => simp [intOf]; omega
          · have hje : j = M.scs.length := by omega
            have HJ := Lib.hid hje
            have hjz : ¬ (j : Int) < (M.scs.length : Int) := by omega
            clear hje
            go_wp2
            go_ret
            exact ⟨rfl, st.ext⟩
end Go.Proofs.Ytlnhiogpjdhhbaa.P
