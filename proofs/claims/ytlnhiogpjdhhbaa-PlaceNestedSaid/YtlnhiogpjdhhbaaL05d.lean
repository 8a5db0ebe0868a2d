/- The walk of the statement PlaceNested. -/
import Derived.Test.YtlnhiogpjdhhbaaP05n
namespace Go.Proofs.Ytlnhiogpjdhhbaa.P
open Go.RowKit Go.Proofs.YtlnhiogpjdhhbaaW.PrintWords Go.Proofs.YtlnhiogpjdhhbaaW.PrintLast Go.Proofs.YtlnhiogpjdhhbaaW.PrintMore
set_option linter.unusedVariables false
set_option linter.unusedSimpArgs false

/-- The two bytes in their block. -/
structure Pq (g : Nat) (p q : Int) (wi : World) : Prop where
  blk : wi.heap[g]? = some (.cells #[.int .u8 p, .int .u8 q] 46)
theorem Pq.later {g : Nat} {p q : Int} {wi wj : World} (h : Pq g p q wi) (hb : Below wi.heap.size wi wj) : Pq g p q wj := ⟨(hb.block g (blk_lt h.blk)).trans h.blk⟩
theorem Pq.alloc {g : Nat} {p q : Int} {wi : World} (h : Pq g p q wi) (o : Obj) : Pq g p q (wi.alloc o) := h.later ((Below.refl _ wi).alloc (Nat.le_refl _) o)
/-- Two lists, a map, and what lies. -/
structure Cx (w W : World) (g : Nat) (t : S27) (M : Mp) (At : Option Addr) (ct : Nat) (A1 : Option Addr) (c1 : Nat) (A2 : Option Addr) (c2 : Nat) (A3 : Option Addr) (c3 : Nat) (Ba Bb : Option Addr) (la lb : List Int) : Prop where
  a : (Kd.int .i64).C W Ba la.length la
  b : (Kd.int .i64).C W Bb lb.length lb
  m : Mb g t M At ct A1 c1 A2 c2 A3 c3 W
  s : St w W
theorem Cx.below {w W W' : World} {g : Nat} {t : S27} {M : Mp} {At : Option Addr} {ct : Nat} {A1 : Option Addr} {c1 : Nat} {A2 : Option Addr} {c2 : Nat} {A3 : Option Addr} {c3 : Nat} {Ba Bb : Option Addr} {la lb : List Int} (h : Cx w W g t M At ct A1 c1 A2 c2 A3 c3 Ba Bb la lb) (hb : Below W.heap.size W W') : Cx w W' g t M At ct A1 c1 A2 c2 A3 c3 Ba Bb la lb :=
  ⟨Kd.C_below h.a hb, Kd.C_below h.b hb, h.m.later hb, h.s.later hb⟩
theorem Cx.drewN {w W : World} {g : Nat} {t : S27} {M : Mp} {At : Option Addr} {ct : Nat} {A1 : Option Addr} {c1 : Nat} {A2 : Option Addr} {c2 : Nat} {A3 : Option Addr} {c3 : Nat} {Ba Bb : Option Addr} {la lb : List Int} (h : Cx w W g t M At ct A1 c1 A2 c2 A3 c3 Ba Bb la lb) (n : Nat) : Cx w (W.drewN n) g t M At ct A1 c1 A2 c2 A3 c3 Ba Bb la lb :=
  h.below (pw_below_drewN (Below.refl _ _) n)
theorem int_at {W : World} {B : Option Addr} {l : List Int} (h : (Kd.int .i64).C W B l.length l) {i : Nat} (hi : i < l.length) : ∃ ad, B = some ad ∧ W.cell? (ad.add i) = some (.int .i64 l[i]) := by
  obtain ⟨ad, e, hc⟩ := h.2.2 (by omega)
  obtain ⟨cs, _, hk, hcell⟩ := hc i l[i] (List.getElem?_eq_getElem hi)
  have hk' : cs = [.int .i64 l[i]] := hk
  subst hk'
  have := hcell 0 _ rfl
  exact ⟨ad, e, by simpa [Kd.int, Kd.scalar] using this⟩
set_option maxHeartbeats 8000000 in
set_option maxRecDepth 100000 in
theorem placeNested_any (x : S27) (A : Option Addr) (c : Nat) (p q : Int) (hp0 : 0 ≤ p) (hp1 : p ≤ 255) (hq0 : 0 ≤ q) (hq1 : q ≤ 255) (w : World) (h : Tr w x A c) :
    Calls Try.prog 5 #[ndV x A c, .agg #[.int .u8 p, .int .u8 q]] w fun e w' => e = .returned (.bool true) ∧ Below w.heap.size w w' := by
  obtain ⟨s, s1, s3, hsz⟩ := tr_size x A c w 150 (by omega) (by omega) h
  have bx0 : Bx w.heap.size x A c ((w.alloc (.cells #[.int .i64 x.f0, .int .u64 x.f1.f0, .int .u64 x.f1.f1, .int .u64 x.f1.f2, .int .u64 x.f1.f3, .slice A x.f2.length c, .int .i64 x.f3, .int .i64 x.f4] 27)).alloc (.cells #[.int .u8 p, .int .u8 q] 46)) := (⟨heap_alloc_new w _, h.alloc _⟩ : Bx w.heap.size x A c (w.alloc (.cells #[.int .i64 x.f0, .int .u64 x.f1.f0, .int .u64 x.f1.f1, .int .u64 x.f1.f2, .int .u64 x.f1.f3, .slice A x.f2.length c, .int .i64 x.f3, .int .i64 x.f4] 27))).alloc _
  have pq0 : Pq (w.heap.size + 1) p q ((w.alloc (.cells #[.int .i64 x.f0, .int .u64 x.f1.f0, .int .u64 x.f1.f1, .int .u64 x.f1.f2, .int .u64 x.f1.f3, .slice A x.f2.length c, .int .i64 x.f3, .int .i64 x.f4] 27)).alloc (.cells #[.int .u8 p, .int .u8 q] 46)) := ⟨by have := heap_alloc_new (w.alloc (.cells #[.int .i64 x.f0, .int .u64 x.f1.f0, .int .u64 x.f1.f1, .int .u64 x.f1.f2, .int .u64 x.f1.f3, .slice A x.f2.length c, .int .i64 x.f3, .int .i64 x.f4] 27)) (.cells #[.int .u8 p, .int .u8 q] 46); rwa [World.size_alloc] at this⟩
  have st0 := ((St.refl w).alloc (.cells #[.int .i64 x.f0, .int .u64 x.f1.f0, .int .u64 x.f1.f1, .int .u64 x.f1.f2, .int .u64 x.f1.f3, .slice A x.f2.length c, .int .i64 x.f3, .int .i64 x.f4] 27)).alloc (.cells #[.int .u8 p, .int .u8 q] 46)
  unfold ndV at *
  go_enter Try.func5, Try.ntmps5
  go_wp2_with fail
  refine (awake_any _).mono ?_
  rintro e w1 ⟨rfl, hb1⟩
  have bx1 := bx0.later hb1
  have pq1 := pq0.later hb1
  have st1 := st0.later hb1
  clear bx0 st0 pq0 hb1
  obtain ⟨c0, c1, c2, c3, c4, c5, c6, c7, z0, z1, z2, z3, z4, z5, z6, z7⟩ := n_cells bx1.blk
  go_wp2_with fail
  refine (hsz w1 bx1.tr).mono ?_
  rintro e w2 ⟨rfl, hb2⟩
  have bx2 := bx1.later hb2
  have pq2 := pq1.later hb2
  have st2 := st1.later hb2
  clear bx1 st1 pq1 hb2 c0 c1 c2 c3 c4 c5 c6 c7 z0 z1 z2 z3 z4 z5 z6 z7
  obtain ⟨c0, c1, c2, c3, c4, c5, c6, c7, z0, z1, z2, z3, z4, z5, z6, z7⟩ := n_cells bx2.blk
  by_cases hbig : 150 < s
  · go_wp2_with fail
    refine (awake_any _).mono ?_
    rintro e w3 ⟨rfl, hb3⟩
    go_wp2
    go_ret
    exact ⟨rfl, (st2.later hb3).ext⟩
  have hcn : (cntT x : Int) ≤ 150 := by have := s3 (.inl (by omega)); omega
  clear s3 hsz
  cases hF : formedT x with
  | false =>
    have hof := of_arg x A c w2 hF bx2.tr
    unfold ndV zMapV at hof
    go_wp2_with fail
    refine hof.mono ?_
    rintro e w3 ⟨rfl, hb3⟩
    have st3 := (st2.later hb3).alloc (.cells #[.int .i64 0, .int .u64 0, .int .u64 0, .int .u64 0, .int .u64 0, .slice none 0 0, .int .i64 0, .int .i64 0, .slice none 0 0, .slice none 0 0, .slice none 0 0] 34)
    clear bx2 st2 hb3 pq2 c0 c1 c2 c3 c4 c5 c6 c7 z0 z1 z2 z3 z4 z5 z6 z7 hof
    go_wp2
    go_ret
    exact ⟨rfl, st3.ext⟩
  | true =>
  cases hB : bigM (ofM x) with
  | true =>
    have hof := of_long x A c w2 hF (by omega) hB bx2.tr
    unfold ndV zMapV at hof
    go_wp2_with fail
    refine hof.mono ?_
    rintro e w3 ⟨rfl, hb3⟩
    have st3 := (st2.later hb3).alloc (.cells #[.int .i64 0, .int .u64 0, .int .u64 0, .int .u64 0, .int .u64 0, .slice none 0 0, .int .i64 0, .int .i64 0, .slice none 0 0, .slice none 0 0, .slice none 0 0] 34)
    clear bx2 st2 hb3 pq2 c0 c1 c2 c3 c4 c5 c6 c7 z0 z1 z2 z3 z4 z5 z6 z7 hof
    go_wp2
    go_ret
    exact ⟨rfl, st3.ext⟩
  | false =>
    have hof := of_fine x A c w2 hF (by omega) hB bx2.tr
    unfold ndV at hof
    go_wp2_with fail
    refine hof.mono ?_
    rintro e w3 ⟨At, ct, A1, c1, A2, c2, A3, c3, rfl, hmo, hb3⟩
    have ma3 : Mb w3.heap.size (simpleT x) (ofM x) At ct A1 c1 A2 c2 A3 c3 (w3.alloc (.cells #[.int .i64 (simpleT x).f0, .int .u64 (simpleT x).f1.f0, .int .u64 (simpleT x).f1.f1, .int .u64 (simpleT x).f1.f2, .int .u64 (simpleT x).f1.f3, .slice At (simpleT x).f2.length ct, .int .i64 (simpleT x).f3, .int .i64 (simpleT x).f4, .slice A1 (ofM x).sets.length c1, .slice A2 (ofM x).scs.length c2, .slice A3 (ofM x).ars.length c3] 34)) := ⟨heap_alloc_new w3 _, hmo.later ((Below.refl _ w3).alloc (Nat.le_refl _) _)⟩
    have pq3 := (pq2.later hb3).alloc (.cells #[.int .i64 (simpleT x).f0, .int .u64 (simpleT x).f1.f0, .int .u64 (simpleT x).f1.f1, .int .u64 (simpleT x).f1.f2, .int .u64 (simpleT x).f1.f3, .slice At (simpleT x).f2.length ct, .int .i64 (simpleT x).f3, .int .i64 (simpleT x).f4, .slice A1 (ofM x).sets.length c1, .slice A2 (ofM x).scs.length c2, .slice A3 (ofM x).ars.length c3] 34)
    have st3 := (st2.later hb3).alloc (.cells #[.int .i64 (simpleT x).f0, .int .u64 (simpleT x).f1.f0, .int .u64 (simpleT x).f1.f1, .int .u64 (simpleT x).f1.f2, .int .u64 (simpleT x).f1.f3, .slice At (simpleT x).f2.length ct, .int .i64 (simpleT x).f3, .int .i64 (simpleT x).f4, .slice A1 (ofM x).sets.length c1, .slice A2 (ofM x).scs.length c2, .slice A3 (ofM x).ars.length c3] 34)
    clear bx2 st2 hb3 pq2 hof hmo c0 c4 c5 c6 c7 z0 z1 z2 z3 z4 z5 z6 z7
    have hlen := ofM_len x
    have hfew := big_few hB
    have hn0 := ofM_ars x
    obtain ⟨ch, hgd⟩ := ofM_gd x
    have HG := Lib.hid hgd
    have HS := Lib.hid (big_short hB)
    clear hgd hB hF
    generalize simpleT x = t at *
    generalize ofM x = M at *
    obtain ⟨W3, hW3⟩ : ∃ W3, W3 = w3.alloc (.cells #[.int .i64 t.f0, .int .u64 t.f1.f0, .int .u64 t.f1.f1, .int .u64 t.f1.f2, .int .u64 t.f1.f3, .slice At t.f2.length ct, .int .i64 t.f3, .int .i64 t.f4, .slice A1 M.sets.length c1, .slice A2 M.scs.length c2, .slice A3 M.ars.length c3] 34) := ⟨_, rfl⟩
    rw [← hW3] at ma3 pq3 st3
    have HW := Lib.hid hW3
    obtain ⟨p0, p1, p2, p3, p4, p5, p6, p7, p8, p9, p10, pz0, pz1, pz2, pz3, pz4, pz5, pz6, pz7, pz8, pz9, pz10⟩ := m_cells ma3.blk
    by_cases hone : M.ars.length = 1
    · have hsz1 : M.sets.length = 1 := by omega
      subst hW3
      rw [hone, hsz1] at st3
      go_wp2
      go_ret
      exact ⟨by simp [hsz1], st3.ext⟩
    · have hl2 : 2 ≤ M.ars.length := by omega
      obtain ⟨ia, hia⟩ : ∃ ia, ia = 1 + p.toNat % (M.ars.length - 1) := ⟨_, rfl⟩
      obtain ⟨ib, hib⟩ : ∃ ib, ib = 1 + q.toNat % (M.ars.length - 1) := ⟨_, rfl⟩
      have ha1 : ia < M.ars.length := by have := Nat.mod_lt p.toNat (show 0 < M.ars.length - 1 by omega); omega
      have hb1 : ib < M.ars.length := by have := Nat.mod_lt q.toNat (show 0 < M.ars.length - 1 by omega); omega
      obtain ⟨g1, g3, Ba, da, e1, e3, v1, v2, v3, v4, la0, lac, lad⟩ := ma3.out.at_ (i := ia) (by omega) ha1
      obtain ⟨g1b, g3b, Bb, db, e1b, e3b, v5, v6, v7, v8, lb0, lbc, lbd⟩ := ma3.out.at_ (i := ib) (by omega) hb1
      have hga : OkL ch M.scs.length M.ars[ia] := HG.out _ (List.getElem_mem _)
      have hgb : OkL ch M.scs.length M.ars[ib] := HG.out _ (List.getElem_mem _)
      have hsa : M.ars[ia].length ≤ 4 := HS.out _ (List.getElem_mem _)
      have hsb : M.ars[ib].length ≤ 4 := HS.out _ (List.getElem_mem _)
      obtain ⟨ja, hja⟩ : ∃ ja, ja = p.toNat % (M.ars.length - 1) := ⟨_, rfl⟩
      obtain ⟨jb, hjb⟩ : ∃ jb, jb = q.toNat % (M.ars.length - 1) := ⟨_, rfl⟩
      have hpa : p.tmod ((M.ars.length : Int) - 1) = (ja : Int) := by
        rw [Int.tmod_eq_emod_of_nonneg hp0, hja]
        have : (p.toNat : Int) = p := by omega
        rw [← this]
        have h2 : (M.ars.length : Int) - 1 = ((M.ars.length - 1 : Nat) : Int) := by omega
        rw [h2]
        simp
      have hpb : q.tmod ((M.ars.length : Int) - 1) = (jb : Int) := by
        rw [Int.tmod_eq_emod_of_nonneg hq0, hjb]
        have : (q.toNat : Int) = q := by omega
        rw [← this]
        have h2 : (M.ars.length : Int) - 1 = ((M.ars.length - 1 : Nat) : Int) := by omega
        rw [h2]
        simp
      have w1 : IntKind.i64.wrap p = p := by rw [IntKind.wrap_i64]; omega
      have w2 : IntKind.i64.wrap q = q := by rw [IntKind.wrap_i64]; omega
      have w4 : IntKind.i64.wrap ((M.ars.length : Int) - 1) = (M.ars.length : Int) - 1 := by rw [IntKind.wrap_i64]; omega
      have w5 : IntKind.i64.wrap (ja : Int) = (ja : Int) := by rw [IntKind.wrap_i64]; omega
      have w6 : IntKind.i64.wrap (jb : Int) = (jb : Int) := by rw [IntKind.wrap_i64]; omega
      have w7 : IntKind.i64.wrap (1 + (ja : Int)) = (ia : Int) := by rw [IntKind.wrap_i64]; omega
      have w8 : IntKind.i64.wrap (1 + (jb : Int)) = (ib : Int) := by rw [IntKind.wrap_i64]; omega
      have hnz : ((M.ars.length : Int) - 1 == 0) = false := by simp; omega
      have k0 : W3.cell? ⟨w.heap.size + 1, 0, none⟩ = some (.int .u8 p) := (blk_cell pq3.blk 0).trans rfl
      have k1 : W3.cell? ⟨w.heap.size + 1, 1, none⟩ = some (.int .u8 q) := (blk_cell pq3.blk 1).trans rfl
      generalize M.ars[ia] = la at *
      generalize M.ars[ib] = lb at *
      subst e3
      injection e3b with e3b
      injection e3b with e3b _ _
      subst e3b
      have hl2z : ¬ (M.ars.length : Int) < 2 := by omega
      have ha1z : (ia : Int) < (M.ars.length : Int) := by omega
      have hb1z : (ib : Int) < (M.ars.length : Int) := by omega
      have hnz2 : ¬ (M.ars.length : Int) - 1 = 0 := by omega
      clear hW3 hlen v1 v2 v3 v4 v5 v6 v7 v8 hja hjb hia hib hone e1 e1b
      go_wp2_with fail
      rw [← HW.out]
      clear HW
      have cx0 : Cx w W3 w3.heap.size t M At ct A1 c1 A2 c2 (some ⟨g3, 0, none⟩) c3 Ba Bb la lb := ⟨lac, lbc, ma3, st3⟩
      go_quiet (fail)
      have cx1 := cx0.drewN nq
      clear cx0 k0 k1 la0 lb0 lac lbc ma3 st3 pq3 p0 p1 p2 p3 p4 p5 p6 p7 p8 p9 p10 pz0 pz1 pz2 pz3 pz4 pz5 pz6 pz7 pz8 pz9 pz10 w1 w2 w4 w5 w6 w7 w8 hpa hpb hnz hnz2 hl2z ha1z hb1z
      generalize W3.drewN nq = W4 at *
      go_wp2
      go_loopw [9] (fun b wr => ∃ n : Nat, n ≤ la.length ∧ n ≤ lb.length ∧ b = .int .i64 n ∧ Cx w wr w3.heap.size t M At ct A1 c1 A2 c2 (some ⟨g3, 0, none⟩) c3 Ba Bb la lb) (fun b _ => la.length - (intOf b).toNat)
      case atStart => exact ⟨0, by omega, by omega, rfl, cx1⟩
      case round =>
        obtain ⟨n, hna, hnb, rfl, cx⟩ := hrel
        have fin : ∀ W, Cx w W w3.heap.size t M At ct A1 c1 A2 c2 (some ⟨g3, 0, none⟩) c3 Ba Bb la lb → (n = la.length ∨ n = lb.length ∨ ∃ (h1 : n < la.length) (h2 : n < lb.length), la[n] ≠ lb[n]) → True := fun _ _ _ => trivial
        clear fin cx1
        by_cases h1 : n < la.length
        · have d1 : decide ((n : Int) < (la.length : Int)) = true := decide_eq_true (by omega)
          by_cases h2 : n < lb.length
          · have d2 : decide ((n : Int) < (lb.length : Int)) = true := decide_eq_true (by omega)
            obtain ⟨aa, rfl, ca⟩ := int_at cx.a h1
            obtain ⟨ab, rfl, cb⟩ := int_at cx.b h2
            have n1 : (n : Int) < (la.length : Int) := by omega
            have n2 : (n : Int) < (lb.length : Int) := by omega
            by_cases he : la[n] = lb[n]
            · have d3 : (la[n] == lb[n]) = true := by simp [he]
              have HE := Lib.hid he
              clear he
              go_wp2_with fail
              go_quiet (fail)
              have cx2 := cx.drewN nq
              clear cx ca cb
              go_wp2
              go_roundw
              case rel => exact ⟨n + 1, by omega, by omega, by go_num, cx2⟩
              case measure => simp [intOf]; omega
            · have d3 : (la[n] == lb[n]) = false := by simp [he]
              have HN := Lib.hid (show n = la.length ∨ n = lb.length ∨ ∃ (h1 : n < la.length) (h2 : n < lb.length), la[n] ≠ lb[n] from .inr (.inr ⟨h1, h2, he⟩))
              clear he
              go_wp2_with fail
              go_quiet (fail)
              have cx2 := cx.drewN nq
              clear cx ca cb n1 n2 d1 d2 d3
              generalize wr.drewN nq = wq at *
              go_wp2
              have hfin := HN.out
              go_loopw [10] (fun i ws => ∃ k : Nat, k ≤ la.length ∧ i = .int .i64 k ∧ Cx w ws w3.heap.size t M At ct A1 c1 A2 c2 (some ⟨g3, 0, none⟩) c3 (some aa) (some ab) la lb) (fun i _ => la.length - (intOf i).toNat)
              case atStart => exact ⟨0, by omega, rfl, cx2⟩
              case round =>
                obtain ⟨i, hi, rfl, cy⟩ := hrel
                clear cx2
                by_cases hli : i < la.length
                · have z1 : (i : Int) < (la.length : Int) := by omega
                  obtain ⟨ai, eai, ci⟩ := int_at cy.a hli
                  injection eai with eai
                  subst eai
                  have hbd := hga.bound i hli
                  have b1 : decide (la[i] < 0) = false := decide_eq_false (by omega)
                  have b2 : decide (la[i] ≥ (M.scs.length : Int)) = false := decide_eq_false (by omega)
                  have m9 : wr.cell? ⟨w3.heap.size, 9, none⟩ = some (.slice A2 M.scs.length c2) := (blk_cell cy.m.blk 9).trans rfl
                  have HAP := Lib.hid (fun k (hk : k < lb.length) (q1 : n ≤ i) (q2 : n ≤ k) => apart_law hga hgb hfin hli hk q1 q2)
                  by_cases hz : i = 0
                  · subst hz
                    have b3 : decide (((0 : Nat) : Int) > 0) = false := rfl
                    have ci0 := ci
                    rw [add0] at ci0
                    have z1 : (0 : Int) < (la.length : Int) := by omega
                    go_wp2_with fail
                    go_quiet (fail)
                    have cz := cy.drewN nq
                    clear cy ci m9 b1 b2 ci0 b3
                    generalize wr.drewN nq = wt at *
                    go_wp2
                    go_loopw [11] (fun k wr => ∃ j : Nat, n ≤ j ∧ j ≤ lb.length ∧ k = .int .i64 j ∧ Cx w wr w3.heap.size t M At ct A1 c1 A2 c2 (some ⟨g3, 0, none⟩) c3 (some aa) (some ab) la lb) (fun k _ => lb.length - (intOf k).toNat)
                    case atStart => exact ⟨n, by omega, by omega, rfl, cz⟩
                    case round =>
                      obtain ⟨j, hnj, hj, rfl, cu⟩ := hrel
                      clear cz
                      by_cases hlj : j < lb.length
                      · have y1 : (j : Int) < (lb.length : Int) := by omega
                        by_cases hin : n ≤ 0
                        · have y2 : (0 : Int) ≥ (n : Int) := by omega
                          have hne := HAP.out j hlj hin hnj
                          have y3 : (la[0] == lb[j]) = false := by simp [hne]
                          obtain ⟨ai2, e1, ci⟩ := int_at cu.a hli
                          obtain ⟨bi2, e2, cj⟩ := int_at cu.b hlj
                          injection e1 with e1
                          injection e2 with e2
                          subst e1 e2
                          have ci0 := ci
                          rw [add0] at ci0
                          clear hne
                          go_wp2_with fail
                          go_quiet (fail)
                          have cv := cu.drewN nq
                          clear cu ci cj ci0
                          go_wp2
                          go_roundw
                          case rel => exact ⟨j + 1, by omega, by omega, by go_num, cv⟩
                          case measure => simp [intOf]; omega
                        · have y2 : ¬ (0 : Int) ≥ (n : Int) := by omega
                          go_wp2
                          go_roundw
                          case rel => exact ⟨0 + 1, by omega, by go_num, cu⟩
                          case measure => simp [intOf]; omega
                      · have y1 : ¬ (j : Int) < (lb.length : Int) := by omega
                        go_wp2
                        go_roundw
                        case rel => exact ⟨0 + 1, by omega, by go_num, cu⟩
                        case measure => simp [intOf]; omega
                  · have b3 : decide ((i : Int) > 0) = true := decide_eq_true (by omega)
                    have b7 : decide (0 < i) = true := decide_eq_true (by omega)
                    obtain ⟨ah, eah, ch0⟩ := int_at cy.a (i := i - 1) (by omega)
                    injection eah with eah
                    subst eah
                    have hr := hga.rise (i - 1) (by omega)
                    have hri : la[i - 1 + 1]'(by omega) = la[i] := by congr 1; omega
                    rw [hri] at hr
                    have b4 : decide (la[i - 1] ≥ la[i]) = false := decide_eq_false (by omega)
                    have b5 : IntKind.i64.wrap ((i : Int) - 1) = ((i - 1 : Nat) : Int) := by rw [IntKind.wrap_i64]; omega
                    have b6 : ((i - 1 : Nat) : Int) < (la.length : Int) := by omega
                    clear hr hri
                    go_wp2_with fail
                    go_quiet (fail)
                    have cz := cy.drewN nq
                    clear cy ci m9 b1 b2 b3 b4 b5 b6 b7 ch0
                    generalize wr.drewN nq = wt at *
                    go_wp2
                    go_loopw [11] (fun k wr => ∃ j : Nat, n ≤ j ∧ j ≤ lb.length ∧ k = .int .i64 j ∧ Cx w wr w3.heap.size t M At ct A1 c1 A2 c2 (some ⟨g3, 0, none⟩) c3 (some aa) (some ab) la lb) (fun k _ => lb.length - (intOf k).toNat)
                    case atStart => exact ⟨n, by omega, by omega, rfl, cz⟩
                    case round =>
                      obtain ⟨j, hnj, hj, rfl, cu⟩ := hrel
                      clear cz
                      by_cases hlj : j < lb.length
                      · have y1 : (j : Int) < (lb.length : Int) := by omega
                        by_cases hin : n ≤ i
                        · have y2 : (i : Int) ≥ (n : Int) := by omega
                          have hne := HAP.out j hlj hin hnj
                          have y3 : (la[i] == lb[j]) = false := by simp [hne]
                          obtain ⟨ai2, e1, ci⟩ := int_at cu.a hli
                          obtain ⟨bi2, e2, cj⟩ := int_at cu.b hlj
                          injection e1 with e1
                          injection e2 with e2
                          subst e1 e2
                          clear hne
                          go_wp2_with fail
                          go_quiet (fail)
                          have cv := cu.drewN nq
                          clear cu ci cj
                          go_wp2
                          go_roundw
                          case rel => exact ⟨j + 1, by omega, by omega, by go_num, cv⟩
                          case measure => simp [intOf]; omega
                        · have y2 : ¬ (i : Int) ≥ (n : Int) := by omega
                          go_wp2
                          go_roundw
                          case rel => exact ⟨i + 1, by omega, by go_num, cu⟩
                          case measure => simp [intOf]; omega
                      · have y1 : ¬ (j : Int) < (lb.length : Int) := by omega
                        go_wp2
                        go_roundw
                        case rel => exact ⟨i + 1, by omega, by go_num, cu⟩
                        case measure => simp [intOf]; omega
                · have z1 : ¬ (i : Int) < (la.length : Int) := by omega
                  go_wp2
                  go_ret
                  exact ⟨rfl, cy.s.ext⟩
          · have d2 : decide ((n : Int) < (lb.length : Int)) = false := decide_eq_false (by omega)
            have n2 : ¬ (n : Int) < (lb.length : Int) := by omega
            have n1 : (n : Int) < (la.length : Int) := by omega
            have hnl : n = lb.length := by omega
            have HN := Lib.hid (show n = la.length ∨ n = lb.length ∨ ∃ (h1 : n < la.length) (h2 : n < lb.length), la[n] ≠ lb[n] from .inr (.inl hnl))
            have HNL := Lib.hid hnl
            clear hnl
            go_wp2_with fail
            go_quiet (fail)
            have cx2 := cx.drewN nq
            clear cx n1 n2 d1 d2
            generalize wr.drewN nq = wq at *
            go_wp2
            have hfin := HN.out
            go_loopw [10] (fun i ws => ∃ k : Nat, k ≤ la.length ∧ i = .int .i64 k ∧ Cx w ws w3.heap.size t M At ct A1 c1 A2 c2 (some ⟨g3, 0, none⟩) c3 Ba Bb la lb) (fun i _ => la.length - (intOf i).toNat)
            case atStart => exact ⟨0, by omega, rfl, cx2⟩
            case round =>
              obtain ⟨i, hi, rfl, cy⟩ := hrel
              clear cx2
              by_cases hli : i < la.length
              · have z1 : (i : Int) < (la.length : Int) := by omega
                obtain ⟨ai, eai, ci⟩ := int_at cy.a hli
                subst eai
                have hbd := hga.bound i hli
                have b1 : decide (la[i] < 0) = false := decide_eq_false (by omega)
                have b2 : decide (la[i] ≥ (M.scs.length : Int)) = false := decide_eq_false (by omega)
                have m9 : wr.cell? ⟨w3.heap.size, 9, none⟩ = some (.slice A2 M.scs.length c2) := (blk_cell cy.m.blk 9).trans rfl
                have HAP := Lib.hid (fun k (hk : k < lb.length) (q1 : n ≤ i) (q2 : n ≤ k) => apart_law hga hgb hfin hli hk q1 q2)
                by_cases hz : i = 0
                · subst hz
                  have b3 : decide (((0 : Nat) : Int) > 0) = false := rfl
                  have ci0 := ci
                  rw [add0] at ci0
                  have z1 : (0 : Int) < (la.length : Int) := by omega
                  go_wp2_with fail
                  go_quiet (fail)
                  have cz := cy.drewN nq
                  clear cy ci m9 b1 b2 ci0 b3
                  generalize wr.drewN nq = wt at *
                  go_wp2
                  go_loopw [11] (fun k wr => ∃ j : Nat, n ≤ j ∧ j ≤ lb.length ∧ k = .int .i64 j ∧ Cx w wr w3.heap.size t M At ct A1 c1 A2 c2 (some ⟨g3, 0, none⟩) c3 (some ai) Bb la lb) (fun k _ => lb.length - (intOf k).toNat)
                  case atStart => exact ⟨n, by omega, by omega, rfl, cz⟩
                  case round =>
                    obtain ⟨j, hnj, hj, rfl, cu⟩ := hrel
                    clear cz
                    by_cases hlj : j < lb.length
                    · exact absurd hlj (by omega)
                    · have y1 : ¬ (j : Int) < (lb.length : Int) := by omega
                      go_wp2
                      go_roundw
                      case rel => exact ⟨0 + 1, by omega, by go_num, cu⟩
                      case measure => simp [intOf]; omega
                · have b3 : decide ((i : Int) > 0) = true := decide_eq_true (by omega)
                  have b7 : decide (0 < i) = true := decide_eq_true (by omega)
                  obtain ⟨ah, eah, ch0⟩ := int_at cy.a (i := i - 1) (by omega)
                  injection eah with eah
                  subst eah
                  have hr := hga.rise (i - 1) (by omega)
                  have hri : la[i - 1 + 1]'(by omega) = la[i] := by congr 1; omega
                  rw [hri] at hr
                  have b4 : decide (la[i - 1] ≥ la[i]) = false := decide_eq_false (by omega)
                  have b5 : IntKind.i64.wrap ((i : Int) - 1) = ((i - 1 : Nat) : Int) := by rw [IntKind.wrap_i64]; omega
                  have b6 : ((i - 1 : Nat) : Int) < (la.length : Int) := by omega
                  clear hr hri
                  go_wp2_with fail
                  go_quiet (fail)
                  have cz := cy.drewN nq
                  clear cy ci m9 b1 b2 b3 b4 b5 b6 b7 ch0
                  generalize wr.drewN nq = wt at *
                  go_wp2
                  go_loopw [11] (fun k wr => ∃ j : Nat, n ≤ j ∧ j ≤ lb.length ∧ k = .int .i64 j ∧ Cx w wr w3.heap.size t M At ct A1 c1 A2 c2 (some ⟨g3, 0, none⟩) c3 (some ai) Bb la lb) (fun k _ => lb.length - (intOf k).toNat)
                  case atStart => exact ⟨n, by omega, by omega, rfl, cz⟩
                  case round =>
                    obtain ⟨j, hnj, hj, rfl, cu⟩ := hrel
                    clear cz
                    by_cases hlj : j < lb.length
                    · exact absurd hlj (by omega)
                    · have y1 : ¬ (j : Int) < (lb.length : Int) := by omega
                      go_wp2
                      go_roundw
                      case rel => exact ⟨i + 1, by omega, by go_num, cu⟩
                      case measure => simp [intOf]; omega
              · have z1 : ¬ (i : Int) < (la.length : Int) := by omega
                go_wp2
                go_ret
                exact ⟨rfl, cy.s.ext⟩
        · have d1 : decide ((n : Int) < (la.length : Int)) = false := decide_eq_false (by omega)
          have n1 : ¬ (n : Int) < (la.length : Int) := by omega
          have hnl : n = la.length := by omega
          have HN := Lib.hid (show n = la.length ∨ n = lb.length ∨ ∃ (h1 : n < la.length) (h2 : n < lb.length), la[n] ≠ lb[n] from .inl hnl)
          clear hnl
          go_wp2_with fail
          go_quiet (fail)
          have cx2 := cx.drewN nq
          clear cx n1 d1
          generalize wr.drewN nq = wq at *
          go_wp2
          have hfin := HN.out
          go_loopw [10] (fun i ws => ∃ k : Nat, k ≤ la.length ∧ i = .int .i64 k ∧ Cx w ws w3.heap.size t M At ct A1 c1 A2 c2 (some ⟨g3, 0, none⟩) c3 Ba Bb la lb) (fun i _ => la.length - (intOf i).toNat)
          case atStart => exact ⟨0, by omega, rfl, cx2⟩
          case round =>
            obtain ⟨i, hi, rfl, cy⟩ := hrel
            clear cx2
            by_cases hli : i < la.length
            · have z1 : (i : Int) < (la.length : Int) := by omega
              obtain ⟨ai, eai, ci⟩ := int_at cy.a hli
              subst eai
              have hbd := hga.bound i hli
              have b1 : decide (la[i] < 0) = false := decide_eq_false (by omega)
              have b2 : decide (la[i] ≥ (M.scs.length : Int)) = false := decide_eq_false (by omega)
              have m9 : wr.cell? ⟨w3.heap.size, 9, none⟩ = some (.slice A2 M.scs.length c2) := (blk_cell cy.m.blk 9).trans rfl
              have HAP := Lib.hid (fun k (hk : k < lb.length) (q1 : n ≤ i) (q2 : n ≤ k) => apart_law hga hgb hfin hli hk q1 q2)
              by_cases hz : i = 0
              · subst hz
                have b3 : decide (((0 : Nat) : Int) > 0) = false := rfl
                have ci0 := ci
                rw [add0] at ci0
                have z1 : (0 : Int) < (la.length : Int) := by omega
                go_wp2_with fail
                go_quiet (fail)
                have cz := cy.drewN nq
                clear cy ci m9 b1 b2 ci0 b3
                generalize wr.drewN nq = wt at *
                go_wp2
                go_loopw [11] (fun k wr => ∃ j : Nat, n ≤ j ∧ j ≤ lb.length ∧ k = .int .i64 j ∧ Cx w wr w3.heap.size t M At ct A1 c1 A2 c2 (some ⟨g3, 0, none⟩) c3 (some ai) Bb la lb) (fun k _ => lb.length - (intOf k).toNat)
                case atStart => exact ⟨n, by omega, by omega, rfl, cz⟩
                case round =>
                  obtain ⟨j, hnj, hj, rfl, cu⟩ := hrel
                  clear cz
                  by_cases hlj : j < lb.length
                  · have y1 : (j : Int) < (lb.length : Int) := by omega
                    have y2 : ¬ (0 : Int) ≥ (n : Int) := by omega
                    go_wp2
                    go_roundw
                    case rel => exact ⟨0 + 1, by omega, by go_num, cu⟩
                    case measure => simp [intOf]; omega
                  · have y1 : ¬ (j : Int) < (lb.length : Int) := by omega
                    go_wp2
                    go_roundw
                    case rel => exact ⟨0 + 1, by omega, by go_num, cu⟩
                    case measure => simp [intOf]; omega
              · have b3 : decide ((i : Int) > 0) = true := decide_eq_true (by omega)
                have b7 : decide (0 < i) = true := decide_eq_true (by omega)
                obtain ⟨ah, eah, ch0⟩ := int_at cy.a (i := i - 1) (by omega)
                injection eah with eah
                subst eah
                have hr := hga.rise (i - 1) (by omega)
                have hri : la[i - 1 + 1]'(by omega) = la[i] := by congr 1; omega
                rw [hri] at hr
                have b4 : decide (la[i - 1] ≥ la[i]) = false := decide_eq_false (by omega)
                have b5 : IntKind.i64.wrap ((i : Int) - 1) = ((i - 1 : Nat) : Int) := by rw [IntKind.wrap_i64]; omega
                have b6 : ((i - 1 : Nat) : Int) < (la.length : Int) := by omega
                clear hr hri
                go_wp2_with fail
                go_quiet (fail)
                have cz := cy.drewN nq
                clear cy ci m9 b1 b2 b3 b4 b5 b6 b7 ch0
                generalize wr.drewN nq = wt at *
                go_wp2
                go_loopw [11] (fun k wr => ∃ j : Nat, n ≤ j ∧ j ≤ lb.length ∧ k = .int .i64 j ∧ Cx w wr w3.heap.size t M At ct A1 c1 A2 c2 (some ⟨g3, 0, none⟩) c3 (some ai) Bb la lb) (fun k _ => lb.length - (intOf k).toNat)
                case atStart => exact ⟨n, by omega, by omega, rfl, cz⟩
                case round =>
                  obtain ⟨j, hnj, hj, rfl, cu⟩ := hrel
                  clear cz
                  by_cases hlj : j < lb.length
                  · have y1 : (j : Int) < (lb.length : Int) := by omega
                    have y2 : ¬ (i : Int) ≥ (n : Int) := by omega
                    go_wp2
                    go_roundw
                    case rel => exact ⟨i + 1, by omega, by go_num, cu⟩
                    case measure => simp [intOf]; omega
                  · have y1 : ¬ (j : Int) < (lb.length : Int) := by omega
                    go_wp2
                    go_roundw
                    case rel => exact ⟨i + 1, by omega, by go_num, cu⟩
                    case measure => simp [intOf]; omega
            · have z1 : ¬ (i : Int) < (la.length : Int) := by omega
              go_wp2
              go_ret
              exact ⟨rfl, cy.s.ext⟩
end Go.Proofs.Ytlnhiogpjdhhbaa.P
