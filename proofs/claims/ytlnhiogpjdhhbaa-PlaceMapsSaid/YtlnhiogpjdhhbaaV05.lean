/- The walk of package place's walk. -/
import Derived.Test.YtlnhiogpjdhhbaaT05g
import Derived.Deep.DeepCutAuto
import Derived.Deep.Onto
import Derived.Deep.RegionHeld3
import Derived.Deep.RegionLaw
namespace Go.Proofs.Ytlnhiogpjdhhbaa.P
open Go.RowKit Go.Proofs.YtlnhiogpjdhhbaaW.PrintWords Go.Proofs.YtlnhiogpjdhhbaaW.PrintLast Go.Proofs.YtlnhiogpjdhhbaaW.PrintMore
set_option linter.unusedVariables false
set_option linter.unusedSimpArgs false

theorem infoC : (Try.prog.info? 24).map (fun i => (i.zero, i.size, i.bytes)) = some (some (.agg #[.int .u64 0, .int .u64 0, .int .u64 0, .int .u64 0]), 4, 32) := by kernel_rfl
theorem infoS : (Try.prog.info? 45).map (fun i => (i.zero, i.size, i.bytes)) = some (some (.agg #[.int .i64 0, .int .i64 0]), 2, 16) := by kernel_rfl
theorem infoA : (Try.prog.info? 42).map (fun i => (i.zero, i.size, i.bytes)) = some (some (.slice none 0 0), 1, 24) := by kernel_rfl
theorem cntL_snoc (ps : List S27) (j : Nat) (h : j < ps.length) : cntL (ps.take (j + 1)) = cntL (ps.take j) + cntT ps[j] := by
  rw [List.take_succ_eq_append_getElem h, cntL_append, cntL, cntL]; omega
theorem cntL_take (ps : List S27) (j : Nat) : cntL (ps.take j) ≤ cntL ps := by
  have h := congrArg cntL (List.take_append_drop j ps)
  rw [cntL_append] at h
  omega
theorem ints_app (l : List Int) (n : Int) : ints (l ++ [n]) = ints l ++ [.int .i64 n] := by simp [ints]
theorem ints_length (l : List Int) : (ints l).length = l.length := by simp [ints]
theorem ints_one (l : List Int) : ∀ u ∈ ints l, u.oneCell' = true := by
  intro u hu
  simp only [ints, List.mem_map] at hu
  obtain ⟨b, _, rfl⟩ := hu
  rfl
theorem n_cells {w : World} {g : Nat} {t : TypeId} {c0 c1 c2 c3 c4 c5 c6 c7 : Value} (h : w.heap[g]? = some (.cells #[c0, c1, c2, c3, c4, c5, c6, c7] t (0, 0))) :
    w.cell? ⟨g, 0, none⟩ = some c0 ∧ w.cell? ⟨g, 1, none⟩ = some c1 ∧ w.cell? ⟨g, 2, none⟩ = some c2 ∧ w.cell? ⟨g, 3, none⟩ = some c3 ∧ w.cell? ⟨g, 4, none⟩ = some c4 ∧ w.cell? ⟨g, 5, none⟩ = some c5 ∧ w.cell? ⟨g, 6, none⟩ = some c6 ∧ w.cell? ⟨g, 7, none⟩ = some c7 ∧
    w.frozen? ⟨g, 0, none⟩ = false ∧ w.frozen? ⟨g, 1, none⟩ = false ∧ w.frozen? ⟨g, 2, none⟩ = false ∧ w.frozen? ⟨g, 3, none⟩ = false ∧ w.frozen? ⟨g, 4, none⟩ = false ∧ w.frozen? ⟨g, 5, none⟩ = false ∧ w.frozen? ⟨g, 6, none⟩ = false ∧ w.frozen? ⟨g, 7, none⟩ = false :=
  ⟨(blk_cell h 0).trans rfl, (blk_cell h 1).trans rfl, (blk_cell h 2).trans rfl, (blk_cell h 3).trans rfl, (blk_cell h 4).trans rfl, (blk_cell h 5).trans rfl, (blk_cell h 6).trans rfl, (blk_cell h 7).trans rfl,
    blk_frozen h 0, blk_frozen h 1, blk_frozen h 2, blk_frozen h 3, blk_frozen h 4, blk_frozen h 5, blk_frozen h 6, blk_frozen h 7⟩

attribute [local go_sem ↓] appS

theorem app_rowD {P : Program} (W : World) {n₀ : Nat} {i0 : TypeInfo} (T e : TypeId) (z : Value) (size bytes : Nat) (hT : P.underlying T = some (.slice e)) (hi : P.info? e = some i0) (hz0 : i0.zero = some z) (hz1 : i0.size = size) (hz2 : i0.bytes = bytes) (hz3 : z.cells.size = size) (hs : 0 < size)
    (v : Value) (n : Nat) (xs : List Value) (hrow : W.ownsRow n₀ e size v n xs) (hn₀ : n₀ ≤ W.heap.size) (us : List Value) (hu : us.length = size) (h1 : ∀ u ∈ us, u.oneCell' = true) (hl : (n + 1) * bytes ≤ 140737488355328) (hl2 : n ≤ 1000000000) :
    ∃ g c w', (AppS #[T, T] T #[v, .slice (some ⟨W.heap.size, 0, none⟩) 1 1]).run P (W.alloc (.cells us.toArray e)).drew = .ok (.slice (some ⟨g, 0, none⟩) (n + 1) c) w' ∧ w'.ownsRow n₀ e size (.slice (some ⟨g, 0, none⟩) (n + 1) c) (n + 1) (xs ++ us) ∧ W.grownBy w' v.ownBlock := by
  obtain ⟨g, c, w', a, b, h⟩ := app_row (P := P) W.drew T e z size bytes hT hi hz0 hz1 hz2 hz3 hs v n xs hrow.drew hn₀ us hu h1 hl hl2
  exact ⟨g, c, w', a, b, ⟨h.os, h.tape, h.output, h.size, h.block⟩⟩

theorem clone_ow (al : List Int) (va : Value) (base : Nat) (w : World) (ho : Ow w base 3 va (ints al)) (hn : al.length ≤ 2000000) :
    Calls Try.prog 27 #[va] w fun e w' => ∃ A' c', e = .returned (.slice A' al.length c') ∧ Ow w' w.heap.size 3 (.slice A' al.length c') (ints al) ∧ Below w.heap.size w w' := by
  obtain ⟨A, c, rfl, hsl, _⟩ := ho.sl
  refine (sclone_any (ints al) A c w hsl (ints_one al) (by rw [ints_length]; exact hn)).mono ?_
  rintro e w' ⟨v', rfl, hv, hb⟩
  obtain ⟨A', c', rfl, _, _⟩ := hv.sl
  rw [ints_length] at hv ⊢
  exact ⟨A', c', rfl, hv, hb⟩
theorem of_drew {w w' : World} (h : Below w.drew.heap.size w.drew w') : Below w.heap.size w w' := ⟨h.os, h.tape, h.output, h.size, h.block⟩

theorem row_form {w : World} {base : Nat} {e : TypeId} {size n : Nat} {v : Value} {xs : List Value} (h : w.ownsRow base e size v n xs) : ∃ A c, v = .slice A n c := by
  rcases h.2 with ⟨rfl, h0⟩ | ⟨g, cap, cur, rfl, _⟩
  · exact ⟨none, 0, by rw [h0]⟩
  · exact ⟨_, _, rfl⟩
theorem cell_on {w w' : World} (hb : Below w.heap.size w w') {a : Addr} {v : Value} (hc : w.cell? a = some v) : w'.cell? a = some v := (hb.cell (World.block_lt_of_cell? w a hc)).trans hc
theorem sz_mem {x p : S27} (h : p ∈ x.f2) : SizeOf.sizeOf p < SizeOf.sizeOf x := by
  have h1 := List.sizeOf_lt_of_mem h
  obtain ⟨k, s, c, lo, hi⟩ := x
  simp at h1 ⊢
  omega

theorem app_rowAt {P : Program} (W : World) {n₀ : Nat} {i0 : TypeInfo} (T e : TypeId) (z : Value) (size bytes : Nat) (hT : P.underlying T = some (.slice e)) (hi : P.info? e = some i0) (hz0 : i0.zero = some z) (hz1 : i0.size = size) (hz2 : i0.bytes = bytes) (hz3 : z.cells.size = size) (hs : 0 < size)
    (v : Value) (n : Nat) (xs : List Value) (hrow : W.ownsRow n₀ e size v n xs) (hn₀ : n₀ ≤ W.heap.size) (ad : Addr) (us : List Value) (hu : us.length = size) (hc : ∀ j x, us[j]? = some x → W.cell? (ad.add j) = some x) (h1 : ∀ u ∈ us, u.oneCell' = true) (hl : (n + 1) * bytes ≤ 140737488355328) (hl2 : n ≤ 1000000000) :
    ∃ g c w', (AppS #[T, T] T #[v, .slice (some ad) 1 1]).run P W = .ok (.slice (some ⟨g, 0, none⟩) (n + 1) c) w' ∧ w'.ownsRow n₀ e size (.slice (some ⟨g, 0, none⟩) (n + 1) c) (n + 1) (xs ++ us) ∧ W.grownBy w' v.ownBlock := by
  obtain ⟨v', w', hr, h2, h3, _⟩ := run_append_own_at (P := P) W n₀ T T e i0 z size bytes hT hi hz0 hz1 hz2 hz3 hs v n xs hrow ad 1 1 us (by rw [hu, Nat.one_mul]) hc h1 (by unfold maxLen; omega) hl hn₀
  obtain ⟨g', cap', rfl⟩ := ownsRow_succ h2
  exact ⟨g', cap', w', hr, h2, h3⟩

theorem add0 (a : Addr) : a.add 0 = a := by unfold Addr.add; simp
structure Wi (W0 w : World) (g : Nat) (t : S27) (At : Option Addr) (ct : Nat) (v1 v2 v3 : Value) (ps : List (Value × List Int)) (m : Mp) (k : Nat) : Prop where
  ext : Below W0.heap.size W0 w
  map : MapIs w g W0.heap.size t At ct v1 v2 v3 ps m
  b1 : m.sets.length + k ≤ 1000000
  b2 : m.scs.length + k ≤ 1000000
  b3 : m.ars.length + k ≤ 1000000
theorem Wi.l3 {W0 w : World} {g : Nat} {t : S27} {At : Option Addr} {ct : Nat} {v1 v2 v3 : Value} {ps : List (Value × List Int)} {m : Mp} {k : Nat} (h : Wi W0 w g t At ct v1 v2 v3 ps m k) : ps.length = m.ars.length := by
  have := congrArg List.length h.map.lists
  simpa using this
theorem ow_one {w : World} {base : Nat} {e : TypeId} {u : Value} {xs : List Value} (h : Ow w base e u xs) : ∀ y ∈ [u], y.oneCell' = true := by
  intro y hy
  rw [List.mem_singleton] at hy
  subst hy
  obtain ⟨A, c, rfl, _, _⟩ := h.sl
  rfl

structure Ws (W0 w wx : World) (g : Nat) (x : S27) (A : Option Addr) (c : Nat) (t : S27) (At : Option Addr) (ct : Nat) (v2 : Value) (m : Mp) : Prop where
  keep : KeepI W0.heap.size w wx
  box : wx.heap[w.heap.size]? = some (.cells (nC8 x A c).toArray 27)
  map : ∃ v1 v3 ps, MapIs wx g W0.heap.size t At ct v1 v2 v3 ps m

set_option maxHeartbeats 4000000 in
theorem walk_any (n : Nat) : ∀ (x : S27) (A : Option Addr) (c : Nat) (al : List Int) (va v1 v2 v3 : Value) (ps : List (Value × List Int)) (m : Mp) (w W0 : World) (g : Nat) (t : S27) (At : Option Addr) (ct : Nat),
    SizeOf.sizeOf x < n → Tr W0 x A c → Ow w W0.heap.size 3 va (ints al) → al.length + cntT x ≤ 1000000 → Wi W0 w g t At ct v1 v2 v3 ps m (cntT x) →
    Calls Try.prog 19 #[.pointer (some ⟨g, 0, none⟩), ndV x A c, va] w fun e w' => e = .returned (.tuple #[]) ∧ KeepI W0.heap.size w w' ∧ ∃ v1 v2 v3 ps, MapIs w' g W0.heap.size t At ct v1 v2 v3 ps (walkT al x m) := by
  induction n with
  | zero => intro x A c al va v1 v2 v3 ps m w W0 g t At ct h; omega
  | succ n ih =>
    intro x A c al va v1 v2 v3 ps m w W0 g t At ct hn ht ho hal hw
    obtain ⟨iC, hiC, hzC0, hzC1, hzC2⟩ := info_parts infoC
    obtain ⟨iS, hiS, hzS0, hzS1, hzS2⟩ := info_parts infoS
    obtain ⟨iA, hiA, hzA0, hzA1, hzA2⟩ := info_parts infoA
    obtain ⟨A2, c2, rfl⟩ := row_form hw.map.scs
    obtain ⟨iI, hiI, hzI0, hzI1, hzI2⟩ := info_parts infoI
    have hbx : (w.alloc (.cells (nC8 x A c).toArray 27)).heap[w.heap.size]? = some (.cells (nC8 x A c).toArray 27) := heap_alloc_new w _
    go_enter Try.func19, Try.ntmps19
    unfold ndV
    have hcnt := fun w' (h : Tr w' x A c) => tr_counts x A c w' h
    have hE := fun w => empty_any x.f1 w
    have hp1 : isPos x = (x.f0 == 1 && !(emptyB x.f1)) := rfl
    unfold ndV at hcnt
    go_upto_region 1 with fail
    go_cut [18] (fun s18 wx => s18 = .bool (isPos x) ∧ Ws W0 w wx g x A c t At ct (.slice A2 m.scs.length c2) m)
    case first =>
      have hb0 : Below w.heap.size w (w.alloc (.cells (nC8 x A c).toArray 27)) := (Below.refl w.heap.size w).alloc (Nat.le_refl _) _
      by_cases h0 : x.f0 = 1
      · have e0 : (x.f0 == 1) = true := by simp [h0]
        clear h0
        rw [e0] at hp1
        go_wp2_with fail
        refine (hE _).mono ?_
        rintro e w1 ⟨rfl, hb1⟩
        have hb1' : Below w.heap.size w w1 := hb0.trans (Below.mono hb1 (by simp))
        have hw1 : Ws W0 w w1 g x A c t At ct (.slice A2 m.scs.length c2) m := ⟨KeepI.of_below hb1', blk_below hbx hb1, _, _, _, hw.map.below hb1'⟩
        cases hem : emptyB x.f1
        all_goals
          rw [hem] at hp1
          go_wp2
          go_meet
          exact ⟨by rw [hp1]; rfl, hw1⟩
      · have e0 : (x.f0 == 1) = false := by simp [h0]
        clear h0
        rw [e0] at hp1
        have hw1 : Ws W0 w _ g x A c t At ct (.slice A2 m.scs.length c2) m := ⟨KeepI.of_below hb0, hbx, _, _, _, hw.map.below hb0⟩
        go_wp2
        go_meet
        exact ⟨by rw [hp1]; rfl, hw1⟩
    case rest =>
      obtain ⟨rfl, hs⟩ := hcut
      clear hE hp1 hbx
      go_upto_if 18 with fail
      go_cut [] (fun wx => Ws W0 w wx g x A c t At ct (.slice A2 m.scs.length c2) (mp1 al x m))
      case first =>
        cases hps : isPos x with
        | true =>
          obtain ⟨hk1, hbx1, V1, V3, qs, hm1⟩ := hs
          have ho1 := hk1.ow ho
          have hl3 : Hid (qs.length = m.ars.length) := Lib.hid (by have := congrArg List.length hm1.lists; simpa using this)
          have hwq := KeepI.size hk1
          unfold nC8 at hbx1
          obtain ⟨k0, k1, k2, k3, k4, k5, k6, k7, fk0, fk1, fk2, fk3, fk4, fk5, fk6, fk7⟩ := n_cells hbx1
          have e8 : wc.cell? ⟨g, 8, none⟩ = some V1 := (blk_cell hm1.blk 8).trans rfl
          have f8 : wc.frozen? ⟨g, 8, none⟩ = false := blk_frozen hm1.blk 8
          obtain ⟨g', c', w2, hr2, hq2, hg2⟩ := app_rowD (P := Try.prog) wc 30 24 _ 4 32 Try.underlying30 hiC hzC0 hzC1 hzC2 rfl (by omega) V1 m.sets.length (clsC m.sets) hm1.sets hm1.size [.int .u64 x.f1.f0, .int .u64 x.f1.f1, .int .u64 x.f1.f2, .int .u64 x.f1.f3] rfl (by simp [Value.oneCell']) (by have := hw.b1; omega) (by have := hw.b1; omega)
          have lg := blk_lt hm1.blk
          have hgb := blk_lt hw.map.blk
          have lb := blk_lt hbx1
          have b2 := blk_grown hm1.blk hg2 (row_ne hm1.sets hm1.blk (by decide))
          have e28 : w2.cell? ⟨g, 8, none⟩ = some V1 := (blk_cell b2 8).trans rfl
          have f28 : w2.frozen? ⟨g, 8, none⟩ = false := blk_frozen b2 8
          go_wp2_with fail
          go_region
          obtain ⟨hm2, hk2⟩ := hm1.addSet hq2 hg2
          have hbx2 := blk_far (blk_grown hbx1 hg2 (row_ne hm1.sets hbx1 (by decide))) (p := ⟨g, 8, none⟩) (fun e => by have := hgb; simp at e; omega) (.slice (some ⟨g', 0, none⟩) (m.sets.length + 1) c')
          have ho2 := hk2.ow ho1
          have hk02 := hk1.trans hk2
          generalize w2.setCell ⟨g, 8, none⟩ (.slice (some ⟨g', 0, none⟩) (m.sets.length + 1) c') = w3 at *
          clear hm1 hk1 ho1 hbx1 k0 k1 k2 k3 k4 k5 k6 k7 fk0 fk1 fk2 fk3 fk4 fk5 fk6 fk7 e8 f8 hr2 hq2 hg2 b2 e28 f28 hk2 lg lb
          have e10 : w3.cell? ⟨g, 10, none⟩ = some V3 := (blk_cell hm2.blk 10).trans rfl
          have lg := blk_lt hm2.blk
          have hcl := clone_ow al va W0.heap.size w3.drew (World.ownsRow.drew ho2) (by omega)
          have hW3 := hm2.size
          have hap : ∀ w4 b u, Below w3.heap.size w3 w4 → Ow w4 b 3 u (ints al) → ∃ g'' c'' w5, (AppS #[32, 32] 32 #[V3, .slice (some ⟨w4.heap.size, 0, none⟩) 1 1]).run Try.prog (w4.alloc (.cells #[u] 42)) = .ok (.slice (some ⟨g'', 0, none⟩) (qs.length + 1) c'') w5 ∧ w5.ownsRow W0.heap.size 42 1 (.slice (some ⟨g'', 0, none⟩) (qs.length + 1) c'') (qs.length + 1) (qs.map (·.1) ++ [u]) ∧ w4.grownBy w5 V3.ownBlock ∧
              g < w4.heap.size ∧ w4.cell? ⟨g, 10, none⟩ = some V3 ∧ w5.cell? ⟨g, 10, none⟩ = some V3 ∧ w5.frozen? ⟨g, 10, none⟩ = false := by
            intro w4 b u hb4 hu
            have hm4 := hm2.below hb4
            obtain ⟨g'', c'', w5, hr5, hq5, hg5⟩ := app_row (P := Try.prog) w4 32 42 _ 1 24 Try.underlying32 hiA hzA0 hzA1 hzA2 rfl (by omega) V3 qs.length (qs.map (·.1)) hm4.ars hm4.size [u] rfl (ow_one hu) (by have := hw.b3; have := hl3.out;  omega) (by have := hw.b3; have := hl3.out;  omega)
            have b5 := blk_grown hm4.blk hg5 (row_ne hm4.ars hm4.blk (by decide))
            exact ⟨g'', c'', w5, hr5, hq5, hg5, blk_lt hm4.blk, (blk_cell hm4.blk 10).trans rfl, (blk_cell b5 10).trans rfl, blk_frozen b5 10⟩
          go_wp2_with fail
          go_region_law (first
            | (go_simp; go_at_call 27; refine hcl.mono ?_; rintro e w4 ⟨uA, uc, rfl, hu, hb4⟩
               replace hb4 := of_drew hb4
               obtain ⟨g'', c'', w5, hr5, hq5, hg5, lg4, e104, e105, f105⟩ := hap w4 _ (.slice uA al.length uc) hb4 hu))
          all_goals
            have hm4 := hm2.below hb4
            obtain ⟨hmz, hk5⟩ := hm4.addAr (l := al) (World.ownsRow.mono hu hW3) hq5 hg5
            have hbz := blk_far (blk_grown (blk_below hbx2 hb4) hg5 (row_ne hm4.ars (blk_below hbx2 hb4) (by decide))) (p := ⟨g, 10, none⟩) (fun e => by simp at e; omega) (.slice (some ⟨g'', 0, none⟩) (qs.length + 1) c'')
            have hkz := (hk02.trans (KeepI.of_below hb4)).trans hk5
            have hmp : mp1 al x m = ⟨m.sets ++ [x.f1], m.scs, m.ars ++ [al]⟩ := by unfold mp1; rw [hps]; rfl
            rw [← hmp] at hmz
            go_wp2_with fail
            go_meet
            exact ⟨hkz, hbz, _, _, _, hmz⟩
        | false =>
          have hmp : mp1 al x m = m := by unfold mp1; rw [hps]; rfl
          have hs' : Ws W0 w wc g x A c t At ct (.slice A2 m.scs.length c2) (mp1 al x m) := by rw [hmp]; exact hs
          go_wp2
          go_meet
          exact hs'
      case rest =>
        obtain ⟨hkz, hbz, V1, V3, qs, hmz⟩ := hcut
        unfold nC8 at hbz
        have hbe := hw.ext.trans (hkz.below hw.map.size)
        have htz := ht.below hbe
        obtain ⟨k0, k1, k2, k3, k4, k5, k6, k7, fk0, fk1, fk2, fk3, fk4, fk5, fk6, fk7⟩ := n_cells hbz
        have hcz := hcnt _ htz
        have hlb : w.heap.size < wc.heap.size := blk_lt hbz
        go_wp2_with fail
        refine hcz.mono ?_
        rintro e w6 ⟨rfl, hb6⟩
        have hm6 := hmz.below hb6
        have hk6 := hkz.trans (KeepI.of_below hb6)
        have hb66 := blk_below hbz hb6
        clear k0 k1 k2 k3 k4 k5 k6 k7 fk0 fk1 fk2 fk3 fk4 fk5 fk6 fk7 hcz hcnt htz hbe hmz hkz hbz hb6 hlb
        go_upto_if 46 with fail
        have hba := (Below.refl w6.heap.size w6).alloc (Nat.le_refl _) (.cells #[.int .i64 (scO x).1, .int .i64 (scO x).2] 45)
        have hs7 : (w6.alloc (.cells #[.int .i64 (scO x).1, .int .i64 (scO x).2] 45)).heap[w6.heap.size]? = some (.cells #[.int .i64 (scO x).1, .int .i64 (scO x).2] 45) := heap_alloc_new w6 _
        have hm7 := hm6.below hba
        have hk7 := hk6.trans (KeepI.of_below hba)
        have ho7 := hk7.ow ho
        have hb77 := blk_below hb66 hba
        have hlb : w.heap.size < w6.heap.size := blk_lt hb66
        have hlg : g < w6.heap.size := blk_lt hm6.blk
        have hgb : g < w.heap.size := blk_lt hw.map.blk
        clear hm6 hk6 hba hb66
        generalize w6.alloc (.cells #[.int .i64 (scO x).1, .int .i64 (scO x).2] 45) = w7 at *
        go_cut [2, 7] from 41 to 65 (fun s2 s7 wx => ∃ v2', Ws W0 w wx g x A c t At ct v2' (mp2 x (mp1 al x m)) ∧ Ow wx W0.heap.size 3 s2 (ints (al2 al x m)))
        case first =>
          cases hct : ctB x with
          | false =>
            have hMM : mp2 x (mp1 al x m) = mp1 al x m := by rw [mp2, hct]; rfl
            have haa : al2 al x m = al := by rw [al2, hct]; rfl
            rw [← hMM] at hm7
            rw [← haa] at ho7
            go_wp2
            go_meet
            exact ⟨_, ⟨hk7, hb77, _, _, _, hm7⟩, ho7⟩
          | true =>
            have hms : (mp1 al x m).scs.length = m.scs.length := by unfold mp1; split <;> rfl
            have e9 : w7.cell? ⟨g, 9, none⟩ = some (.slice A2 m.scs.length c2) := (blk_cell hm7.blk 9).trans rfl
            have hcl := clone_ow al va W0.heap.size w7.drew (World.ownsRow.drew ho7) (by omega)
            have hW7 := hm7.size
            have hap : ∀ wa u, Below w7.heap.size w7 wa → Ow wa w7.drew.heap.size 3 u (ints al) → ∃ g1 c1 wb, (AppS #[42, 42] 42 #[u, .slice (some ⟨wa.heap.size, 0, none⟩) 1 1]).run Try.prog (wa.alloc (.cells #[.int .i64 (m.scs.length : Int)] 3)) = .ok (.slice (some ⟨g1, 0, none⟩) (al.length + 1) c1) wb ∧ Ow wb w7.drew.heap.size 3 (.slice (some ⟨g1, 0, none⟩) (al.length + 1) c1) (ints (al ++ [(m.scs.length : Int)])) ∧ Below w7.heap.size w7 wb ∧
                g < wa.heap.size ∧ wa.cell? ⟨g, 9, none⟩ = some (.slice A2 m.scs.length c2) := by
              intro wa u hb hu
              have hma := hm7.below hb
              have hs0 : w7.drew.heap.size ≤ wa.heap.size := hb.size
              obtain ⟨g1, c1, wb, hr1, hq1, hg1⟩ := app_row (P := Try.prog) wa 42 3 _ 1 8 Try.underlying42 hiI hzI0 hzI1 hzI2 rfl (by omega) u (ints al).length (ints al) hu hs0 [.int .i64 (m.scs.length : Int)] rfl (by simp [Value.oneCell']) (by rw [ints_length]; omega) (by rw [ints_length]; omega)
              rw [ints_length] at hr1 hq1
              refine ⟨g1, c1, wb, hr1, ?_, hb.grown hg1 hs0 (fun k e => (Ow.lt hu k e).1), blk_lt hma.blk, (blk_cell hma.blk 9).trans rfl⟩
              unfold Ow
              rw [ints_app, List.length_append, ints_length]
              exact hq1
            have hcl2 := clone_ow al va W0.heap.size (w7.alloc (.cells #[.int .i64 (m.scs.length : Int)] 3)).drew (World.ownsRow.drew (ho7.alloc _)) (by omega)
            have hap2 : ∀ wa u, Below (w7.alloc (.cells #[.int .i64 (m.scs.length : Int)] 3)).heap.size (w7.alloc (.cells #[.int .i64 (m.scs.length : Int)] 3)) wa → Ow wa (w7.alloc (.cells #[.int .i64 (m.scs.length : Int)] 3)).drew.heap.size 3 u (ints al) → ∃ g1 c1 wb, (AppS #[42, 42] 42 #[u, .slice (some ⟨w7.heap.size, 0, none⟩) 1 1]).run Try.prog wa = .ok (.slice (some ⟨g1, 0, none⟩) (al.length + 1) c1) wb ∧ Ow wb w7.drew.heap.size 3 (.slice (some ⟨g1, 0, none⟩) (al.length + 1) c1) (ints (al ++ [(m.scs.length : Int)])) ∧ Below w7.heap.size w7 wb ∧
                g < wa.heap.size ∧ wa.cell? ⟨g, 9, none⟩ = some (.slice A2 m.scs.length c2) := by
              intro wa u hb hu
              have hb0 : Below w7.heap.size w7 wa := ((Below.refl w7.heap.size w7).alloc (Nat.le_refl _) (.cells #[.int .i64 (m.scs.length : Int)] 3)).trans (hb.mono (by simp))
              have hma := hm7.below hb0
              have hs0 : w7.drew.heap.size ≤ wa.heap.size := hb0.size
              replace hu : Ow wa w7.drew.heap.size 3 u (ints al) := World.ownsRow.mono hu (by show w7.heap.size ≤ (w7.alloc _).heap.size; simp)
              have hcc := cell_on hb ((blk_cell (heap_alloc_new w7 (.cells #[.int .i64 (m.scs.length : Int)] 3)) 0).trans rfl)
              obtain ⟨g1, c1, wb, hr1, hq1, hg1⟩ := app_rowAt (P := Try.prog) wa 42 3 _ 1 8 Try.underlying42 hiI hzI0 hzI1 hzI2 rfl (by omega) u (ints al).length (ints al) hu hs0 ⟨w7.heap.size, 0, none⟩ [.int .i64 (m.scs.length : Int)] rfl
                (fun j y hy => by
                  match j, hy with
                  | 0, hy =>
                    injection hy with hy
                    subst hy
                    rw [add0]
                    exact hcc) (by simp [Value.oneCell']) (by rw [ints_length]; omega) (by rw [ints_length]; omega)
              rw [ints_length] at hr1 hq1
              refine ⟨g1, c1, wb, hr1, ?_, hb0.grown hg1 hs0 (fun k e => (Ow.lt hu k e).1), blk_lt hma.blk, (blk_cell hma.blk 9).trans rfl⟩
              unfold Ow
              rw [ints_app, List.length_append, ints_length]
              exact hq1
            go_wp2_with fail
            go_region_law (first
              | (go_simp; go_at_call 27; refine hcl2.mono ?_; rintro e wa ⟨uB, ub, rfl, hub, hba⟩
                 replace hba := of_drew hba
                 obtain ⟨g1, c1, wb, hr1, hq1, hb1b, lga, e9a⟩ := hap2 wa (.slice uB al.length ub) hba hub)
              | (go_simp; go_at_call 27; refine hcl.mono ?_; rintro e wa ⟨uB, ub, rfl, hub, hba⟩
                 replace hba := of_drew hba
                 obtain ⟨g1, c1, wb, hr1, hq1, hb1b, lga, e9a⟩ := hap wa (.slice uB al.length ub) hba hub))
            all_goals
              have hm9 := hm7.below hb1b
              have hk9 := hk7.trans (KeepI.of_below hb1b)
              have hb99 := blk_below hb77 hb1b
              have hs9 := blk_below hs7 hb1b
              have ho9 : Ow wb W0.heap.size 3 (.slice (some ⟨g1, 0, none⟩) (al.length + 1) c1) (ints (al ++ [(m.scs.length : Int)])) := World.ownsRow.mono hq1 hW7
              clear hap hcl hap2 hcl2 e9 hr1 hq1 hb1b lga e9a hub hba hm7 hk7 ho7 hb77 hs7
              have e9 : wb.cell? ⟨g, 9, none⟩ = some (.slice A2 m.scs.length c2) := (blk_cell hm9.blk 9).trans rfl
              have s0 : wb.cell? ⟨w6.heap.size, 0, none⟩ = some (.int .i64 (scO x).1) := (blk_cell hs9 0).trans rfl
              have s1 : wb.cell? ⟨w6.heap.size, 1, none⟩ = some (.int .i64 (scO x).2) := (blk_cell hs9 1).trans rfl
              have lgb := blk_lt hm9.blk
              have lsb := blk_lt hs9
              obtain ⟨g3, c3, wc, hr3, hq3, hg3⟩ := app_rowD (P := Try.prog) wb 31 45 _ 2 16 Try.underlying31 hiS hzS0 hzS1 hzS2 rfl (by omega) (.slice A2 m.scs.length c2) m.scs.length (scC (mp1 al x m).scs) (by have h := hm9.scs; rw [hms] at h; exact h) hm9.size [.int .i64 (scO x).1, .int .i64 (scO x).2] rfl (by simp [Value.oneCell']) (by have := hw.b2; omega) (by have := hw.b2; omega)
              have b10 := blk_grown hm9.blk hg3 (row_ne hm9.scs hm9.blk (by decide))
              have e10 : wc.cell? ⟨g, 9, none⟩ = some (.slice A2 m.scs.length c2) := (blk_cell b10 9).trans rfl
              have f10 : wc.frozen? ⟨g, 9, none⟩ = false := blk_frozen b10 9
              have hbc := blk_grown hb99 hg3 (row_ne hm9.scs hb99 (by decide))
              obtain ⟨k0, k1, k2, k3, k4, k5, k6, k7, fk0, fk1, fk2, fk3, fk4, fk5, fk6, fk7⟩ := n_cells hbc
              have hgn : ¬ w.heap.size = g := by omega
              have hgn' : ¬ g = w.heap.size := by omega
              go_wp2_with fail
              go_region
              all_goals
                clear k0 k1 k2 k3 k4 k5 k6 k7 fk0 fk1 fk2 fk3 fk4 fk5 fk6 fk7 hbc hgn hgn'
                obtain ⟨hm8, hk11⟩ := hm9.addSc (s := scO x) (by rw [hms]; exact hq3) hg3
                have hb11 := blk_far (blk_grown hb99 hg3 (row_ne hm9.scs hb99 (by decide))) (p := ⟨g, 9, none⟩) (fun e => by simp at e; omega) (.slice (some ⟨g3, 0, none⟩) (m.scs.length + 1) c3)
                have ho8 := hk11.ow ho9
                have hk8 := hk9.trans hk11
                generalize wc.setCell ⟨g, 9, none⟩ (.slice (some ⟨g3, 0, none⟩) (m.scs.length + 1) c3) = w8 at *
                clear hm9 hk9 hb99 hs9 ho9 e9 s0 s1 lgb lsb hr3 hq3 hg3 b10 e10 f10 hk11
                have hMM : mp2 x (mp1 al x m) = ⟨(mp1 al x m).sets, (mp1 al x m).scs ++ [scO x], (mp1 al x m).ars⟩ := by rw [mp2, hct]; rfl
                have haa : al2 al x m = al ++ [(m.scs.length : Int)] := by rw [al2, hct]; rfl
                rw [← hMM] at hm8
                rw [← haa] at ho8
                go_wp2_with fail
                go_meet
                exact ⟨_, ⟨hk8, hb11, _, _, _, hm8⟩, ho8⟩
        case rest =>
          obtain ⟨v2', ⟨hk8, hb8, V1', V3', qs8, hm8⟩, ho8⟩ := hcut
          have hbe8 := hw.ext.trans (hk8.below hw.map.size)
          have hml := walkT_eq al x m
          have hmx := mp12_le al x m
          have hal2 : (al2 al x m).length ≤ al.length + 1 := by rw [al2]; split <;> simp
          have hcx := cntT_eq x
          have hmax := ht.row.2.1
          have hsz := hm8.size
          generalize mp2 x (mp1 al x m) = M2 at *
          generalize al2 al x m = a2 at *
          unfold nC8 at hb8
          obtain ⟨k0, k1, k2, k3, k4, k5, k6, k7, fk0, fk1, fk2, fk3, fk4, fk5, fk6, fk7⟩ := n_cells hb8
          go_wp2
          go_loopw [69] (fun i wr => ∃ (j : Nat) (y1 y2 y3 : Value) (qs : List (Value × List Int)), j ≤ x.f2.length ∧ i = .int .i64 j ∧ MapIs wr g W0.heap.size t At ct y1 y2 y3 qs (walkL a2 (x.f2.take j) M2) ∧ KeepI W0.heap.size wc wr) (fun i _ => x.f2.length - (intOf i).toNat)
          case atStart => exact ⟨0, _, _, _, _, by omega, rfl, (by simpa [walkL] using hm8), KeepI.refl _ _⟩
          case round =>
            obtain ⟨j, y1, y2, y3, qs, hj, rfl, hmr, hkr⟩ := hrel
            by_cases hlt : j < x.f2.length
            · have hbr := hbe8.trans (hkr.below hsz)
              obtain ⟨ad, A5, c5, hA, q0, q1, q2, q3, q4, q5, q6, q7, l5, g5⟩ := at_T27 ht.row (j : Int) (by omega) (by omega)
              have hp : rd_T27 x.f2 (j : Int) = x.f2[j] := by simp [rd_T27, List.getD, List.getElem?_eq_getElem hlt]
              have hpm : x.f2[j] ∈ x.f2 := List.getElem_mem hlt
              have hps := sz_mem hpm
              have hle := walkL_le a2 (x.f2.take j) M2
              have h1 := cntL_snoc x.f2 j hlt
              have h2 := cntL_take x.f2 (j + 1)
              have hsn := walkL_snoc a2 x.f2 j hlt M2
              rw [hp] at q0 q1 q2 q3 q4 q5 q6 q7 l5 g5
              generalize x.f2[j] = p at *
              rw [Int.toNat_natCast] at q0 q1 q2 q3 q4 q5 q6 q7
              have htp : Tr W0 p A5 c5 := ⟨g5, l5⟩
              replace q0 := cell_on hbr q0
              replace q1 := cell_on hbr q1
              replace q2 := cell_on hbr q2
              replace q3 := cell_on hbr q3
              replace q4 := cell_on hbr q4
              replace q5 := cell_on hbr q5
              replace q6 := cell_on hbr q6
              replace q7 := cell_on hbr q7
              have hba := (Below.refl wr.heap.size wr).alloc (Nat.le_refl _) (.cells (nC8 p A5 c5).toArray 27)
              have hor : Ow wr W0.heap.size 3 u2 (ints a2) := hkr.ow ho8
              have hwi : Wi W0 (wr.alloc (.cells (nC8 p A5 c5).toArray 27)) g t At ct y1 y2 y3 qs (walkL a2 (x.f2.take j) M2) (cntT p) :=
                ⟨hbr.trans (hba.mono (by have := hbr.size; omega)), hmr.below hba, by have := hle.sets; have := hmx.sets; have := hw.b1; omega, by have := hle.scs; have := hmx.scs; have := hw.b2; omega, by have := hle.ars; have := hmx.ars; have := hw.b3; omega⟩
              have hrec := ih p A5 c5 a2 u2 y1 y2 y3 qs _ _ W0 g t At ct (by omega) htp ((KeepI.of_below hba).ow hor) (by omega) hwi
              unfold ndV nC8 at hrec
              clear hle h1 h2 hps hpm hp g5 l5 htp hwi hor ih
              subst hA
              go_wp2_with fail
              refine hrec.mono ?_
              rintro e w9 ⟨rfl, hk9, y1', y2', y3', qs', hm9⟩
              go_wp2
              refine ⟨⟨j + 1, y1', y2', y3', qs', by omega, by go_num, by rw [hsn]; exact hm9, (hkr.trans (KeepI.of_below hba)).trans hk9⟩, by simp [intOf]; omega⟩
            · obtain rfl : j = x.f2.length := by omega
              rw [List.take_length, ← hml] at hmr
              go_wp2
              go_end0
              exact ⟨rfl, hk8.trans hkr, y1, y2, y3, qs, hmr⟩
end Go.Proofs.Ytlnhiogpjdhhbaa.P
