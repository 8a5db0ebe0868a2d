/- The walk of the statement PlaceSimple. -/
import Derived.Test.YtlnhiogpjdhhbaaL05a
namespace Go.Proofs.Ytlnhiogpjdhhbaa.P
open Go.RowKit Go.Proofs.YtlnhiogpjdhhbaaW.PrintWords Go.Proofs.YtlnhiogpjdhhbaaW.PrintLast Go.Proofs.YtlnhiogpjdhhbaaW.PrintMore
set_option linter.unusedVariables false
set_option linter.unusedSimpArgs false

theorem again2 (x : S27) (h : formedT x = true) : formedT (simpleT x) = true ∧ simpleT (simpleT x) = simpleT x := by
  cases hv : voidT x with
  | true =>
    rw [simple_void hv, simple_vT]
    exact ⟨formed_vT, rfl⟩
  | false =>
    obtain ⟨a, _, _, _⟩ := simple_good _ x (Nat.lt_succ_self _) h hv
    exact ⟨(lean_formed a).1, simple_lean a⟩
theorem ofM_again (x : S27) (h : formedT x = true) : ofM (simpleT x) = ofM x := by
  unfold ofM
  rw [(again2 x h).2]
/-- A map in a block. -/
structure Mb (q : Nat) (t : S27) (M : Mp) (At : Option Addr) (ct : Nat) (A1 : Option Addr) (c1 : Nat) (A2 : Option Addr) (c2 : Nat) (A3 : Option Addr) (c3 : Nat) (wi : World) : Prop where
  blk : wi.heap[q]? = some (.cells #[.int .i64 t.f0, .int .u64 t.f1.f0, .int .u64 t.f1.f1, .int .u64 t.f1.f2, .int .u64 t.f1.f3, .slice At t.f2.length ct, .int .i64 t.f3, .int .i64 t.f4, .slice A1 M.sets.length c1, .slice A2 M.scs.length c2, .slice A3 M.ars.length c3] 34)
  out : MapOut wi t M At ct A1 c1 A2 c2 A3 c3
theorem Mb.later {q : Nat} {t : S27} {M : Mp} {At : Option Addr} {ct : Nat} {A1 : Option Addr} {c1 : Nat} {A2 : Option Addr} {c2 : Nat} {A3 : Option Addr} {c3 : Nat} {wi wj : World} (h : Mb q t M At ct A1 c1 A2 c2 A3 c3 wi) (hb : Below wi.heap.size wi wj) : Mb q t M At ct A1 c1 A2 c2 A3 c3 wj := ⟨(hb.block q (blk_lt h.blk)).trans h.blk, h.out.later hb⟩
theorem Mb.alloc {q : Nat} {t : S27} {M : Mp} {At : Option Addr} {ct : Nat} {A1 : Option Addr} {c1 : Nat} {A2 : Option Addr} {c2 : Nat} {A3 : Option Addr} {c3 : Nat} {wi : World} (h : Mb q t M At ct A1 c1 A2 c2 A3 c3 wi) (o : Obj) : Mb q t M At ct A1 c1 A2 c2 A3 c3 (wi.alloc o) := h.later ((Below.refl _ wi).alloc (Nat.le_refl _) o)
theorem clsC_len (l : List S24) : (clsC l).length = l.length * 4 := by
  induction l with
  | nil => rfl
  | cons s l ih =>
    unfold clsC at ih ⊢
    rw [List.flatMap_cons, List.length_append, ih]
    simp; omega
theorem clsC_get : ∀ (l : List S24) (i : Nat) (hi : i < l.length), (clsC l)[i * 4]? = some (.int .u64 l[i].f0) ∧ (clsC l)[i * 4 + 1]? = some (.int .u64 l[i].f1) ∧ (clsC l)[i * 4 + 2]? = some (.int .u64 l[i].f2) ∧ (clsC l)[i * 4 + 3]? = some (.int .u64 l[i].f3)
  | [], i, hi => by simp at hi
  | s :: l, 0, _ => ⟨rfl, rfl, rfl, rfl⟩
  | s :: l, i + 1, hi => by
    have h := clsC_get l i (by simp at hi; omega)
    have e : clsC (s :: l) = [.int .u64 s.f0, .int .u64 s.f1, .int .u64 s.f2, .int .u64 s.f3] ++ clsC l := rfl
    rw [e]
    have k : ∀ j, ([Value.int .u64 s.f0, .int .u64 s.f1, .int .u64 s.f2, .int .u64 s.f3] ++ clsC l)[(i + 1) * 4 + j]? = (clsC l)[i * 4 + j]? := fun j => by
      rw [List.getElem?_append_right (by simp; omega)]
      congr 1
      simp; omega
    simp only [List.getElem_cons_succ]
    exact ⟨(k 0).trans h.1, (k 1).trans h.2.1, (k 2).trans h.2.2.1, (k 3).trans h.2.2.2⟩
/-- What stands at one place of a map. -/
theorem MapOut.at_ {w : World} {t : S27} {M : Mp} {At : Option Addr} {ct : Nat} {A1 : Option Addr} {c1 : Nat} {A2 : Option Addr} {c2 : Nat} {A3 : Option Addr} {c3 : Nat} (h : MapOut w t M At ct A1 c1 A2 c2 A3 c3) {i : Nat} (hi : i < M.sets.length) (hj : i < M.ars.length) :
    ∃ g1 g3 B d, A1 = some ⟨g1, 0, none⟩ ∧ A3 = some ⟨g3, 0, none⟩ ∧ w.cell? ⟨g1, i * 4, none⟩ = some (.int .u64 M.sets[i].f0) ∧ w.cell? ⟨g1, i * 4 + 1, none⟩ = some (.int .u64 M.sets[i].f1) ∧ w.cell? ⟨g1, i * 4 + 2, none⟩ = some (.int .u64 M.sets[i].f2) ∧ w.cell? ⟨g1, i * 4 + 3, none⟩ = some (.int .u64 M.sets[i].f3) ∧
      w.cell? ⟨g3, i, none⟩ = some (.slice B M.ars[i].length d) ∧ (Kd.int .i64).C w B M.ars[i].length M.ars[i] ∧ M.ars[i].length ≤ d := by
  obtain ⟨g, base, ps, hm⟩ := h.ex
  have hps : ps.length = M.ars.length := by
    have := congrArg List.length hm.lists
    simpa using this
  have hs := hm.sets
  have ha := hm.ars
  rw [hps] at ha
  obtain ⟨n1, hn1⟩ : ∃ n1, M.sets.length = n1 + 1 := ⟨M.sets.length - 1, by omega⟩
  obtain ⟨n3, hn3⟩ : ∃ n3, M.ars.length = n3 + 1 := ⟨M.ars.length - 1, by omega⟩
  rw [hn1] at hs
  rw [hn3] at ha
  obtain ⟨g1, cc1, e1⟩ := ownsRow_succ hs
  obtain ⟨g3, cc3, e3⟩ := ownsRow_succ ha
  injection e1 with e1 _ _
  injection e3 with e3 _ _
  subst e1 e3
  obtain ⟨k0, k1, k2, k3⟩ := clsC_get M.sets i hi
  have hpi : i < ps.length := by omega
  have hl : ps[i].2 = M.ars[i] := by
    have := hm.lists
    simp only [← this, List.getElem_map]
  obtain ⟨B, d, hB, hsl, _⟩ := (hm.each ps[i] (List.getElem_mem hpi)).sl
  rw [hl] at hB hsl
  rw [ints_length] at hB
  have hca := ha.cellAt i (by omega)
  rw [List.getElem?_map, List.getElem?_eq_getElem hpi, Option.map_some, hB] at hca
  refine ⟨g1, g3, B, d, rfl, rfl, (hs.cellAt _ (by omega)).trans k0, (hs.cellAt _ (by omega)).trans k1, (hs.cellAt _ (by omega)).trans k2, (hs.cellAt _ (by omega)).trans k3, hca, ?_, ?_⟩
  · refine ⟨rfl, by have := hsl.cap; have := hsl.max; rw [ints_length] at *; omega, fun h0 => ?_⟩
    obtain ⟨ad, rfl, _⟩ := hsl.at_ (k := 0) (by rw [ints_length]; omega)
    refine ⟨ad, rfl, fun j x hj => ⟨[.int .i64 x], rfl, rfl, fun q u hu => ?_⟩⟩
    have hq : q = 0 := by
      have := (List.getElem?_eq_some_iff.1 hu).1
      simp at this
      omega
    subst hq
    have hx : u = .int .i64 x := by simpa using hu.symm
    subst hx
    have hc := hsl.cell ad rfl j (.int .i64 x) (by unfold ints; rw [List.getElem?_map, hj]; rfl)
    simpa [Kd.int, Kd.scalar] using hc
  · have := hsl.cap
    rwa [ints_length] at this

theorem ofM_len (x : S27) : (ofM x).sets.length = (ofM x).ars.length := by
  have h := (walkT_ext [] (simpleT x) m0).same
  simp only [m0, List.length_singleton] at h
  exact Nat.add_right_cancel h
theorem sameInts_l0 (l : List Int) (hl : l.length ≤ 1000000) : ∀ (d j : Nat), l.length - j = d → j ≤ l.length → ostinatoref05_SameInts.l0 (2 * d + 2) l l (j : Int) = some true
  | 0, j, hd, hj => by
    have e : j = l.length := by omega
    subst e
    rw [show 2 * 0 + 2 = 1 + 1 from rfl, ostinatoref05_SameInts.l0, if_neg (by omega), ostinatoref05_SameInts.j1]
    simp
  | d + 1, j, hd, hj => by
    have hlt : (j : Int) < (l.length : Int) := by omega
    rw [show 2 * (d + 1) + 2 = (2 * d + 2 + 1) + 1 by omega, ostinatoref05_SameInts.l0, if_pos hlt, decide_eq_true hlt, ostinatoref05_SameInts.j1, if_pos rfl, if_pos (by omega), if_pos hlt, if_pos hlt, if_pos rfl]
    have e : wrap64 ((j : Int) + 1) = ((j + 1 : Nat) : Int) := by unfold wrap64; omega
    rw [e]
    exact sameInts_l0 l hl d (j + 1) (by omega) (by omega)
theorem sameInts_same (l : List Int) (hl : l.length ≤ 1000000) : ∃ k, ostinatoref05_SameInts.f k l l = some true :=
  ⟨2 * l.length + 2, sameInts_l0 l hl l.length 0 (by omega) (by omega)⟩
theorem tr_sameInts (l : List Int) (hl : l.length ≤ 1000000) (A B : Option Addr) (c d : Nat) (w : World) (h1 : (Kd.int .i64).C w A l.length l) (k1 : l.length ≤ c) (h2 : (Kd.int .i64).C w B l.length l) (k2 : l.length ≤ d) :
    Calls Try.prog 12 #[.slice A l.length c, .slice B l.length d] w fun e w' => e = .returned (.bool true) ∧ Below w.heap.size w w' := by
  obtain ⟨k, hk⟩ := sameInts_same l hl
  exact (ostinatoref05_SameInts.calls k A c l B d l true w h1 k1 h2 k2 hk).mono fun e w' ⟨a, b⟩ => ⟨a, b.below⟩
/-- No list is long where the map is none too big. -/
theorem big_short {M : Mp} (h : bigM M = false) : ∀ l ∈ M.ars, l.length ≤ 4 := by
  intro l hl
  unfold bigM at h
  rw [Bool.or_eq_false_iff, List.any_eq_false] at h
  have := h.2 l hl
  simp at this
  omega
theorem big_few {M : Mp} (h : bigM M = false) : M.sets.length ≤ 41 := by
  unfold bigM at h
  rw [Bool.or_eq_false_iff] at h
  have := of_decide_eq_false h.1
  omega
theorem same_refl (x : S27) : sameT x x = true := (sameT_iff x x).2 rfl
set_option maxHeartbeats 4000000 in
theorem placeSimple_any (x : S27) (A : Option Addr) (c : Nat) (w : World) (h : Tr w x A c) :
    Calls Try.prog 3 #[ndV x A c] w fun e w' => e = .returned (.bool true) ∧ Below w.heap.size w w' := by
  obtain ⟨s, s1, s3, hsz⟩ := tr_size x A c w 150 (by omega) (by omega) h
  have bx0 : Bx w.heap.size x A c (w.alloc (.cells #[.int .i64 x.f0, .int .u64 x.f1.f0, .int .u64 x.f1.f1, .int .u64 x.f1.f2, .int .u64 x.f1.f3, .slice A x.f2.length c, .int .i64 x.f3, .int .i64 x.f4] 27)) := ⟨heap_alloc_new w _, h.alloc _⟩
  have st0 := (St.refl w).alloc (.cells #[.int .i64 x.f0, .int .u64 x.f1.f0, .int .u64 x.f1.f1, .int .u64 x.f1.f2, .int .u64 x.f1.f3, .slice A x.f2.length c, .int .i64 x.f3, .int .i64 x.f4] 27)
  unfold ndV at *
  go_enter Try.func3, Try.ntmps3
  go_wp2_with fail
  refine (awake_any _).mono ?_
  rintro e w1 ⟨rfl, hb1⟩
  have bx1 := bx0.later hb1
  have st1 := st0.later hb1
  clear bx0 st0 hb1
  obtain ⟨c0, c1, c2, c3, c4, c5, c6, c7, z0, z1, z2, z3, z4, z5, z6, z7⟩ := n_cells bx1.blk
  go_wp2_with fail
  refine (hsz w1 bx1.tr).mono ?_
  rintro e w2 ⟨rfl, hb2⟩
  have bx2 := bx1.later hb2
  have st2 := st1.later hb2
  clear bx1 st1 hb2 c0 c1 c2 c3 c4 c5 c6 c7 z0 z1 z2 z3 z4 z5 z6 z7
  obtain ⟨c0, c1, c2, c3, c4, c5, c6, c7, z0, z1, z2, z3, z4, z5, z6, z7⟩ := n_cells bx2.blk
  by_cases hbig : 150 < s
  · go_wp2_with fail
    refine (awake_any _).mono ?_
    rintro e w3 ⟨rfl, hb3⟩
    go_wp2
    go_ret
    exact ⟨rfl, (st2.later hb3).ext⟩
  have hcn : (cntT x : Int) ≤ 150 := by have := s3 (.inl (by omega)); omega
  clear s3 hsz
  cases hF : formedT x with
  | false =>
    have hof := of_arg x A c w2 hF bx2.tr
    unfold ndV zMapV at hof
    go_wp2_with fail
    refine hof.mono ?_
    rintro e w3 ⟨rfl, hb3⟩
    have bx3 := (bx2.later hb3).alloc (.cells #[.int .i64 0, .int .u64 0, .int .u64 0, .int .u64 0, .int .u64 0, .slice none 0 0, .int .i64 0, .int .i64 0, .slice none 0 0, .slice none 0 0, .slice none 0 0] 34)
    have st3 := (st2.later hb3).alloc (.cells #[.int .i64 0, .int .u64 0, .int .u64 0, .int .u64 0, .int .u64 0, .slice none 0 0, .int .i64 0, .int .i64 0, .slice none 0 0, .slice none 0 0, .slice none 0 0] 34)
    clear bx2 st2 hb3 c0 c1 c2 c3 c4 c5 c6 c7 z0 z1 z2 z3 z4 z5 z6 z7 hof
    obtain ⟨c0, c1, c2, c3, c4, c5, c6, c7, z0, z1, z2, z3, z4, z5, z6, z7⟩ := n_cells bx3.blk
    have hsm := tr_simple_bad x A c _ hF bx3.tr
    unfold ndV at hsm
    go_wp2_with fail
    refine hsm.mono ?_
    rintro e w4 ⟨A', c', rfl, hb4⟩
    have st4 := st3.later hb4
    clear bx3 st3 hb4 c0 c1 c2 c3 c4 c5 c6 c7 z0 z1 z2 z3 z4 z5 z6 z7 hsm
    go_wp2
    go_ret
    exact ⟨rfl, (st4.alloc _).ext⟩
  | true =>
  obtain ⟨hF2, hS2⟩ := again2 x hF
  have hM2 := ofM_again x hF
  have hcs : cntT (simpleT x) ≤ 10000 := by have := (simpleT_ok _ x (Nat.lt_succ_self _) (ok_formed hF)).2; omega
  cases hB : bigM (ofM x) with
  | true =>
    have hof := of_long x A c w2 hF (by omega) hB bx2.tr
    unfold ndV zMapV at hof
    go_wp2_with fail
    refine hof.mono ?_
    rintro e w3 ⟨rfl, hb3⟩
    have bx3 := (bx2.later hb3).alloc (.cells #[.int .i64 0, .int .u64 0, .int .u64 0, .int .u64 0, .int .u64 0, .slice none 0 0, .int .i64 0, .int .i64 0, .slice none 0 0, .slice none 0 0, .slice none 0 0] 34)
    have st3 := (st2.later hb3).alloc (.cells #[.int .i64 0, .int .u64 0, .int .u64 0, .int .u64 0, .int .u64 0, .slice none 0 0, .int .i64 0, .int .i64 0, .slice none 0 0, .slice none 0 0, .slice none 0 0] 34)
    have hz3 := heap_alloc_new w3 (.cells #[.int .i64 0, .int .u64 0, .int .u64 0, .int .u64 0, .int .u64 0, .slice none 0 0, .int .i64 0, .int .i64 0, .slice none 0 0, .slice none 0 0, .slice none 0 0] 34)
    clear bx2 st2 hb3 c0 c1 c2 c3 c4 c5 c6 c7 z0 z1 z2 z3 z4 z5 z6 z7 hof
    obtain ⟨c0, c1, c2, c3, c4, c5, c6, c7, z0, z1, z2, z3, z4, z5, z6, z7⟩ := n_cells bx3.blk
    have hsm := tr_simple x A c _ hF (by omega) bx3.tr
    unfold ndV at hsm
    go_wp2_with fail
    refine hsm.mono ?_
    rintro e w4 ⟨Ax, cx, rfl, tx, hb4⟩
    have by4 : Bx w4.heap.size (simpleT x) Ax cx (w4.alloc (.cells #[.int .i64 (simpleT x).f0, .int .u64 (simpleT x).f1.f0, .int .u64 (simpleT x).f1.f1, .int .u64 (simpleT x).f1.f2, .int .u64 (simpleT x).f1.f3, .slice Ax (simpleT x).f2.length cx, .int .i64 (simpleT x).f3, .int .i64 (simpleT x).f4] 27)) := ⟨heap_alloc_new w4 _, tx.alloc _⟩
    have st4 := (st3.later hb4).alloc (.cells #[.int .i64 (simpleT x).f0, .int .u64 (simpleT x).f1.f0, .int .u64 (simpleT x).f1.f1, .int .u64 (simpleT x).f1.f2, .int .u64 (simpleT x).f1.f3, .slice Ax (simpleT x).f2.length cx, .int .i64 (simpleT x).f3, .int .i64 (simpleT x).f4] 27)
    have hz4 := blk_alloc (blk_below hz3 hb4) (.cells #[.int .i64 (simpleT x).f0, .int .u64 (simpleT x).f1.f0, .int .u64 (simpleT x).f1.f1, .int .u64 (simpleT x).f1.f2, .int .u64 (simpleT x).f1.f3, .slice Ax (simpleT x).f2.length cx, .int .i64 (simpleT x).f3, .int .i64 (simpleT x).f4] 27)
    clear bx3 st3 hb4 hz3 c0 c1 c2 c3 c4 c5 c6 c7 z0 z1 z2 z3 z4 z5 z6 z7 hsm tx
    obtain ⟨c0, c1, c2, c3, c4, c5, c6, c7, z0, z1, z2, z3, z4, z5, z6, z7⟩ := n_cells by4.blk
    have hof := of_long (simpleT x) Ax cx _ hF2 hcs (by rw [hM2]; exact hB) by4.tr
    unfold ndV zMapV at hof
    go_wp2_with fail
    refine hof.mono ?_
    rintro e w5 ⟨rfl, hb5⟩
    have hz5 := blk_alloc (blk_below hz4 hb5) (.cells #[.int .i64 0, .int .u64 0, .int .u64 0, .int .u64 0, .int .u64 0, .slice none 0 0, .int .i64 0, .int .i64 0, .slice none 0 0, .slice none 0 0, .slice none 0 0] 34)
    have hy5 := heap_alloc_new w5 (.cells #[.int .i64 0, .int .u64 0, .int .u64 0, .int .u64 0, .int .u64 0, .slice none 0 0, .int .i64 0, .int .i64 0, .slice none 0 0, .slice none 0 0, .slice none 0 0] 34)
    have st5 := (st4.later hb5).alloc (.cells #[.int .i64 0, .int .u64 0, .int .u64 0, .int .u64 0, .int .u64 0, .slice none 0 0, .int .i64 0, .int .i64 0, .slice none 0 0, .slice none 0 0, .slice none 0 0] 34)
    clear by4 st4 hb5 hz4 c0 c1 c2 c3 c4 c5 c6 c7 z0 z1 z2 z3 z4 z5 z6 z7 hof
    have hq := tr_same zT zT none none 0 0 (w5.alloc (.cells #[.int .i64 0, .int .u64 0, .int .u64 0, .int .u64 0, .int .u64 0, .slice none 0 0, .int .i64 0, .int .i64 0, .slice none 0 0, .slice none 0 0, .slice none 0 0] 34)) (by decide +kernel) (Tr.nil _ _ _ _ _) (Tr.nil _ _ _ _ _)
    rw [same_refl zT] at hq
    unfold ndV zT at hq
    obtain ⟨p0, p1, p2, p3, p4, p5, p6, p7, p8, p9, p10, pz0, pz1, pz2, pz3, pz4, pz5, pz6, pz7, pz8, pz9, pz10⟩ := m_cells hz5
    obtain ⟨q0, q1, q2, q3, q4, q5, q6, q7, q8, q9, q10, qz0, qz1, qz2, qz3, qz4, qz5, qz6, qz7, qz8, qz9, qz10⟩ := m_cells hy5
    go_wp2_with fail
    refine hq.mono ?_
    rintro e w6 ⟨rfl, hb6⟩
    have hz6 := blk_below hz5 hb6
    have st6 := st5.later hb6
    clear hz5 hy5 st5 hb6 hq p0 p1 p2 p3 p4 p5 p6 p7 p8 p9 p10 pz0 pz1 pz2 pz3 pz4 pz5 pz6 pz7 pz8 pz9 pz10 q0 q1 q2 q3 q4 q5 q6 q7 q8 q9 q10 qz0 qz1 qz2 qz3 qz4 qz5 qz6 qz7 qz8 qz9 qz10
    obtain ⟨p0, p1, p2, p3, p4, p5, p6, p7, p8, p9, p10, pz0, pz1, pz2, pz3, pz4, pz5, pz6, pz7, pz8, pz9, pz10⟩ := m_cells hz6
    go_wp2
    go_loopw [9] (fun i wr => i = .int .i64 0 ∧ wr = w6) (fun i _ => 0)
    case atStart => exact ⟨rfl, rfl⟩
    case round =>
      obtain ⟨rfl, rfl⟩ := hrel
      go_wp2
      go_ret
      exact ⟨rfl, st6.ext⟩
  | false =>
    have hof := of_fine x A c w2 hF (by omega) hB bx2.tr
    unfold ndV at hof
    go_wp2_with fail
    refine hof.mono ?_
    rintro e w3 ⟨At, ct, A1, c1, A2, c2, A3, c3, rfl, hmo, hb3⟩
    have bx3 := (bx2.later hb3).alloc (.cells #[.int .i64 (simpleT x).f0, .int .u64 (simpleT x).f1.f0, .int .u64 (simpleT x).f1.f1, .int .u64 (simpleT x).f1.f2, .int .u64 (simpleT x).f1.f3, .slice At (simpleT x).f2.length ct, .int .i64 (simpleT x).f3, .int .i64 (simpleT x).f4, .slice A1 (ofM x).sets.length c1, .slice A2 (ofM x).scs.length c2, .slice A3 (ofM x).ars.length c3] 34)
    have st3 := (st2.later hb3).alloc (.cells #[.int .i64 (simpleT x).f0, .int .u64 (simpleT x).f1.f0, .int .u64 (simpleT x).f1.f1, .int .u64 (simpleT x).f1.f2, .int .u64 (simpleT x).f1.f3, .slice At (simpleT x).f2.length ct, .int .i64 (simpleT x).f3, .int .i64 (simpleT x).f4, .slice A1 (ofM x).sets.length c1, .slice A2 (ofM x).scs.length c2, .slice A3 (ofM x).ars.length c3] 34)
    have ma3 : Mb w3.heap.size (simpleT x) (ofM x) At ct A1 c1 A2 c2 A3 c3 (w3.alloc (.cells #[.int .i64 (simpleT x).f0, .int .u64 (simpleT x).f1.f0, .int .u64 (simpleT x).f1.f1, .int .u64 (simpleT x).f1.f2, .int .u64 (simpleT x).f1.f3, .slice At (simpleT x).f2.length ct, .int .i64 (simpleT x).f3, .int .i64 (simpleT x).f4, .slice A1 (ofM x).sets.length c1, .slice A2 (ofM x).scs.length c2, .slice A3 (ofM x).ars.length c3] 34)) := ⟨heap_alloc_new w3 _, hmo.later ((Below.refl _ w3).alloc (Nat.le_refl _) _)⟩
    clear bx2 st2 hb3 c0 c4 c5 c6 c7 z0 z1 z2 z3 z4 z5 z6 z7 hof hmo
    obtain ⟨cc0, cc1, cc2, cc3, cc4, cc5, cc6, cc7, z0, z1, z2, z3, z4, z5, z6, z7⟩ := n_cells bx3.blk
    have hsm := tr_simple x A c _ hF (by omega) bx3.tr
    unfold ndV at hsm
    go_wp2_with fail
    refine hsm.mono ?_
    rintro e w4 ⟨Ax, cx, rfl, tx, hb4⟩
    have by4 : Bx w4.heap.size (simpleT x) Ax cx (w4.alloc (.cells #[.int .i64 (simpleT x).f0, .int .u64 (simpleT x).f1.f0, .int .u64 (simpleT x).f1.f1, .int .u64 (simpleT x).f1.f2, .int .u64 (simpleT x).f1.f3, .slice Ax (simpleT x).f2.length cx, .int .i64 (simpleT x).f3, .int .i64 (simpleT x).f4] 27)) := ⟨heap_alloc_new w4 _, tx.alloc _⟩
    have st4 := (st3.later hb4).alloc (.cells #[.int .i64 (simpleT x).f0, .int .u64 (simpleT x).f1.f0, .int .u64 (simpleT x).f1.f1, .int .u64 (simpleT x).f1.f2, .int .u64 (simpleT x).f1.f3, .slice Ax (simpleT x).f2.length cx, .int .i64 (simpleT x).f3, .int .i64 (simpleT x).f4] 27)
    have ma4 := (ma3.later hb4).alloc (.cells #[.int .i64 (simpleT x).f0, .int .u64 (simpleT x).f1.f0, .int .u64 (simpleT x).f1.f1, .int .u64 (simpleT x).f1.f2, .int .u64 (simpleT x).f1.f3, .slice Ax (simpleT x).f2.length cx, .int .i64 (simpleT x).f3, .int .i64 (simpleT x).f4] 27)
    clear bx3 st3 hb4 ma3 cc0 cc1 cc2 cc3 cc4 cc5 cc6 cc7 z0 z1 z2 z3 z4 z5 z6 z7 hsm tx
    obtain ⟨cc0, cc1, cc2, cc3, cc4, cc5, cc6, cc7, z0, z1, z2, z3, z4, z5, z6, z7⟩ := n_cells by4.blk
    have hof := of_fine (simpleT x) Ax cx _ hF2 hcs (by rw [hM2]; exact hB) by4.tr
    rw [hM2, hS2] at hof
    unfold ndV at hof
    go_wp2_with fail
    refine hof.mono ?_
    rintro e w5 ⟨Atb, ctb, A1b, c1b, A2b, c2b, A3b, c3b, rfl, hmo, hb5⟩
    have ma5 := (ma4.later hb5).alloc (.cells #[.int .i64 (simpleT x).f0, .int .u64 (simpleT x).f1.f0, .int .u64 (simpleT x).f1.f1, .int .u64 (simpleT x).f1.f2, .int .u64 (simpleT x).f1.f3, .slice Atb (simpleT x).f2.length ctb, .int .i64 (simpleT x).f3, .int .i64 (simpleT x).f4, .slice A1b (ofM x).sets.length c1b, .slice A2b (ofM x).scs.length c2b, .slice A3b (ofM x).ars.length c3b] 34)
    have mb5 : Mb w5.heap.size (simpleT x) (ofM x) Atb ctb A1b c1b A2b c2b A3b c3b (w5.alloc (.cells #[.int .i64 (simpleT x).f0, .int .u64 (simpleT x).f1.f0, .int .u64 (simpleT x).f1.f1, .int .u64 (simpleT x).f1.f2, .int .u64 (simpleT x).f1.f3, .slice Atb (simpleT x).f2.length ctb, .int .i64 (simpleT x).f3, .int .i64 (simpleT x).f4, .slice A1b (ofM x).sets.length c1b, .slice A2b (ofM x).scs.length c2b, .slice A3b (ofM x).ars.length c3b] 34)) := ⟨heap_alloc_new w5 _, hmo.later ((Below.refl _ w5).alloc (Nat.le_refl _) _)⟩
    have st5 := (st4.later hb5).alloc (.cells #[.int .i64 (simpleT x).f0, .int .u64 (simpleT x).f1.f0, .int .u64 (simpleT x).f1.f1, .int .u64 (simpleT x).f1.f2, .int .u64 (simpleT x).f1.f3, .slice Atb (simpleT x).f2.length ctb, .int .i64 (simpleT x).f3, .int .i64 (simpleT x).f4, .slice A1b (ofM x).sets.length c1b, .slice A2b (ofM x).scs.length c2b, .slice A3b (ofM x).ars.length c3b] 34)
    clear by4 st4 hb5 ma4 cc0 cc1 cc2 cc3 cc4 cc5 cc6 cc7 z0 z1 z2 z3 z4 z5 z6 z7 hof hmo
    have hq := tr_same (simpleT x) (simpleT x) At Atb ct ctb _ (by omega) ma5.out.tr mb5.out.tr
    rw [same_refl] at hq
    unfold ndV at hq
    obtain ⟨p0, p1, p2, p3, p4, p5, p6, p7, p8, p9, p10, pz0, pz1, pz2, pz3, pz4, pz5, pz6, pz7, pz8, pz9, pz10⟩ := m_cells ma5.blk
    obtain ⟨q0, q1, q2, q3, q4, q5, q6, q7, q8, q9, q10, qz0, qz1, qz2, qz3, qz4, qz5, qz6, qz7, qz8, qz9, qz10⟩ := m_cells mb5.blk
    go_wp2_with fail
    refine hq.mono ?_
    rintro e w6 ⟨rfl, hb6⟩
    have ma6 := ma5.later hb6
    have mb6 := mb5.later hb6
    have st6 := st5.later hb6
    clear ma5 mb5 st5 hb6 hq p0 p1 p2 p3 p4 p5 p6 p7 p8 p9 p10 pz0 pz1 pz2 pz3 pz4 pz5 pz6 pz7 pz8 pz9 pz10 q0 q1 q2 q3 q4 q5 q6 q7 q8 q9 q10 qz0 qz1 qz2 qz3 qz4 qz5 qz6 qz7 qz8 qz9 qz10
    have hlen := ofM_len x
    have hshort := big_short hB
    have HS := Lib.hid hshort
    have hfew := big_few hB
    clear hshort
    generalize simpleT x = t at *
    generalize ofM x = M at *
    obtain ⟨p0, p1, p2, p3, p4, p5, p6, p7, p8, p9, p10, pz0, pz1, pz2, pz3, pz4, pz5, pz6, pz7, pz8, pz9, pz10⟩ := m_cells ma6.blk
    go_wp2
    go_loopw [9] (fun i wr => ∃ k : Nat, k ≤ M.sets.length ∧ i = .int .i64 k ∧ Mb w3.heap.size t M At ct A1 c1 A2 c2 A3 c3 wr ∧ Mb w5.heap.size t M Atb ctb A1b c1b A2b c2b A3b c3b wr ∧ St w wr) (fun i _ => M.sets.length - (intOf i).toNat)
    case atStart => exact ⟨0, by omega, rfl, ma6, mb6, st6⟩
    case round =>
      obtain ⟨k, hk, rfl, ma, mb, st⟩ := hrel
      clear p0 p1 p2 p3 p4 p5 p6 p7 p8 p9 p10 pz0 pz1 pz2 pz3 pz4 pz5 pz6 pz7 pz8 pz9 pz10
      obtain ⟨p0, p1, p2, p3, p4, p5, p6, p7, p8, p9, p10, pz0, pz1, pz2, pz3, pz4, pz5, pz6, pz7, pz8, pz9, pz10⟩ := m_cells ma.blk
      obtain ⟨q0, q1, q2, q3, q4, q5, q6, q7, q8, q9, q10, qz0, qz1, qz2, qz3, qz4, qz5, qz6, qz7, qz8, qz9, qz10⟩ := m_cells mb.blk
      by_cases hlt : k < M.sets.length
      · obtain ⟨g1, g3, B, d, e1, e3, s0, s1, s2, s3, l0, lc, ld⟩ := ma.out.at_ hlt (by omega)
        obtain ⟨g1b, g3b, Bb, db, e1b, e3b, s0b, s1b, s2b, s3b, l0b, lcb, ldb⟩ := mb.out.at_ hlt (by omega)
        have hl4 : M.ars[k].length ≤ 4 := HS.out _ (List.getElem_mem _)
        generalize M.ars[k] = l at *
        generalize M.sets[k] = y at *
        subst e1 e3 e1b e3b
        have hsi := fun dd os => Calls.regrown_of (tr_sameInts l (by omega) B Bb d db (Go.Sort.grow (redrawn wr dd) os) (Kd.C_below lc (below_regrown wr dd os)) ld (Kd.C_below lcb (below_regrown wr dd os)) ldb)
        have kp8 := cell_regrown p8
        have kp10 := cell_regrown p10
        have kq8 := cell_regrown q8
        have kq10 := cell_regrown q10
        have ks0 := cell_regrown s0
        have ks1 := cell_regrown s1
        have ks2 := cell_regrown s2
        have ks3 := cell_regrown s3
        have ks0b := cell_regrown s0b
        have ks1b := cell_regrown s1b
        have ks2b := cell_regrown s2b
        have ks3b := cell_regrown s3b
        have kl0 := cell_regrown l0
        have kl0b := cell_regrown l0b
        have heq := fun (w : World) => eqA24 9998 w y.f0 y.f0 y.f1 y.f1 y.f2 y.f2 y.f3 y.f3
        have hkz : (k : Int) < (M.sets.length : Int) := by omega
        have hkz2 : (k : Int) < (M.ars.length : Int) := by omega
        have ma' := fun dd os => ma.later (below_regrown wr dd os)
        have mb' := fun dd os => mb.later (below_regrown wr dd os)
        have st' := fun dd os => st.later (below_regrown wr dd os)
        go_wp2_with fail
        clear ma mb st p0 p1 p2 p3 p4 p5 p6 p7 p9 q0 q1 q2 q3 q4 q5 q6 q7 q9 pz0 pz1 pz2 pz3 pz4 pz5 pz6 pz7 pz8 pz9 pz10 qz0 qz1 qz2 qz3 qz4 qz5 qz6 qz7 qz8 qz9 qz10 lc lcb
        refine wp_region_quiet_below (by kernel_rfl) (by kernel_rfl) ?_
        repeat (quiet_step (fail))
        quiet_step (exact hsi _ _)
        repeat (quiet_step (fail))
        refine wpQuiet_nil ?_
        intro _ hw'
        obtain ⟨⟨dq, osq⟩, hw''⟩ := hw'
        subst hw''
        have ma7 := ma' dq osq
        have mb7 := mb' dq osq
        have st7 := st' dq osq
        clear ma' mb' st' kp8 kp10 kq8 kq10 ks0 ks1 ks2 ks3 ks0b ks1b ks2b ks3b kl0 kl0b hsi heq
        go_wp2
        go_roundw
        case rel => exact ⟨k + 1, by omega, by go_num, ma7, mb7, st7⟩
        case measure => simp [intOf]; omega
      · have hke : k = M.sets.length := by omega
        have HK := Lib.hid hke
        have hkz : ¬ (k : Int) < (M.sets.length : Int) := by omega
        clear hke
        go_wp2
        go_ret
        exact ⟨rfl, st.ext⟩
end Go.Proofs.Ytlnhiogpjdhhbaa.P
