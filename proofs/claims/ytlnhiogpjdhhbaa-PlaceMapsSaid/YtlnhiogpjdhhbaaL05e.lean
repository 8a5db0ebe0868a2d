/- The walk of the reference's Of. -/
import Derived.Test.YtlnhiogpjdhhbaaP05s
import Derived.Deep.Onto
import Derived.Deep.RegionHeld3
import Derived.Deep.RegionLaw
import Derived.Deep.DeepCutAuto
import Derived.Deep.LoopGhost
namespace Go.Proofs.Ytlnhiogpjdhhbaa.P
open Go.RowKit Go.Proofs.YtlnhiogpjdhhbaaW.PrintWords Go.Proofs.YtlnhiogpjdhhbaaW.PrintLast Go.Proofs.YtlnhiogpjdhhbaaW.PrintMore
set_option linter.unusedVariables false
set_option linter.unusedSimpArgs false
attribute [local go_sem ↓] appS
attribute [local go_sem high] eqA24
abbrev SC (ys : List TN) : List (Int × Int) := (ys.filter ctB).map scO
structure S1 (base zs : Nat) (wz : World) (g : Nat) (t : TN) (At : Option Addr) (ct : Nat) (v1 v3 : Value) (S : List (Int × Int)) (l : List Int) (vn v2 : Value) (w : World) : Prop where
  z : Zo base zs wz w
  map : MapIs w g base t At ct v1 v2 v3 [(.slice none 0 0, [])] ⟨[zS], S, [[]]⟩
  m2 : Mine base zs wz.heap.size v2
  num : Ow w wz.heap.size 3 vn (ints l)
namespace S1
variable {base zs : Nat} {wz : World} {g : Nat} {t : TN} {At : Option Addr} {ct : Nat} {v1 v3 : Value} {S : List (Int × Int)} {l : List Int} {vn v2 v' : Value} {w w' : World}
theorem below (h : S1 base zs wz g t At ct v1 v3 S l vn v2 w) (hb : Below w.heap.size w w') : S1 base zs wz g t At ct v1 v3 S l vn v2 w' := ⟨h.z.below hb, h.map.below hb, h.m2, (KeepI.of_below (base := 0) hb).ow' h.num⟩
theorem mineN (h : S1 base zs wz g t At ct v1 v3 S l vn v2 w) : Mine base zs wz.heap.size vn := fun k hk => .inr (row_blk h.num k hk).1
theorem app (h : S1 base zs wz g t At ct v1 v3 S l vn v2 w) {k : Int} {n : Nat} (hn : n = l.length) (hq : w'.ownsRow wz.heap.size 3 1 v' (n + 1) (ints l ++ [.int .i64 k])) (hg : w.grownBy w' vn.ownBlock) : S1 base zs wz g t At ct v1 v3 S (l ++ [k]) v' v2 w' :=
  ⟨h.z.grown hg h.mineN, h.map.num h.num hg, h.m2, by unfold Ow; rw [ints_app, List.length_append, ints_length, ← hn]; exact hq⟩
theorem store {gn cn n : Nat} (h : S1 base zs wz g t At ct v1 v3 S l (.slice (some ⟨gn, 0, none⟩) n cn) v2 w) (hn : n = l.length) (j : Nat) (k : Int) : S1 base zs wz g t At ct v1 v3 S (l.set j k) (.slice (some ⟨gn, 0, none⟩) n cn) v2 (w.setCell ⟨gn, j, none⟩ (.int .i64 k)) := by
  subst hn
  have h0 := h.num
  unfold Ow at h0
  rw [ints_length] at h0
  obtain ⟨h1, h2⟩ := own_store (k := .i64) (xs := l) h0 (j : Int) k
  rw [Int.toNat_natCast] at h1 h2
  have h2' : w.grownBy (w.setCell ⟨gn, j, none⟩ (.int .i64 k)) (Value.slice (some ⟨gn, 0, none⟩) l.length cn).ownBlock := h2
  exact ⟨h.z.grown h2' h.mineN, h.map.num h.num h2', h.m2, by unfold Ow; rw [ints_length, List.length_set]; exact h1⟩
theorem sc (h : S1 base zs wz g t At ct v1 v3 S l vn v2 w) {s : Int × Int} (hq : w'.ownsRow base 45 2 v' (S.length + 1) (scC S ++ [.int .i64 s.1, .int .i64 s.2])) (hg : w.grownBy w' v2.ownBlock) (hm : Mine base zs wz.heap.size v') (hgz : g < zs) : S1 base zs wz g t At ct v1 v3 (S ++ [s]) l vn v' (w'.setCell ⟨g, 9, none⟩ v') := by
  obtain ⟨h1, h2⟩ := h.map.addSc (s := s) hq hg
  exact ⟨(h.z.grown hg h.m2).setCell h.map.le hgz _, h1, hm, h2.ow' h.num⟩
end S1
def col2 (N : Nat → Int) (q : List (TN × List Int)) (S : List (Int × Int)) : Mp := ⟨[zS] ++ (posL q).map fun p => p.1.f1, S, [[]] ++ (posL q).map fun p => arN N p.2⟩
structure S2 (base zs : Nat) (wz : World) (g : Nat) (t : TN) (At : Option Addr) (ct : Nat) (v2 vn : Value) (ns : List Int) (N : Nat → Int) (q : List (TN × List Int)) (S : List (Int × Int)) (i : Nat) (v1 v3 : Value) (ps : List (Value × List Int)) (w : World) : Prop where
  z : Zo base zs wz w
  map : MapIs w g base t At ct v1 v2 v3 ps (col2 N (q.take i) S)
  m1 : Mine base zs wz.heap.size v1
  m3 : Mine base zs wz.heap.size v3
  num : Ow w wz.heap.size 3 vn (ints ns)
  fit : ((posL (q.take i)).map fun p => arN N p.2).any (fun l => decide ((l.length : Int) > 4)) = false
theorem path_at {e : Nat} {w : World} {A : Option Addr} {l : List (List Int)} (h : Kd.C (Kd.slice e (Kd.int .i64)) w A l.length l) {i : Nat} (hi : i < l.length) : ∃ ad B d, A = some ad ∧ w.cell? (ad.add i) = some (.slice B l[i].length d) ∧ (Kd.int .i64).C w B l[i].length l[i] := by
  obtain ⟨ad, e, hc⟩ := h.2.2 (by omega)
  obtain ⟨cs, _, hk, hcell⟩ := hc i l[i] (List.getElem?_eq_getElem hi)
  obtain ⟨B, d, rfl, _, hC⟩ := hk
  have := hcell 0 _ rfl
  exact ⟨ad, B, d, e, by simpa [Kd.slice] using this, hC⟩
theorem intAt {W : World} {B : Option Addr} {l : List Int} (h : (Kd.int .i64).C W B l.length l) {i : Nat} (hi : i < l.length) : ∃ ad, B = some ad ∧ W.cell? (ad.add i) = some (.int .i64 l[i]) := by
  obtain ⟨ad, e, hc⟩ := h.2.2 (by omega)
  obtain ⟨cs, _, hk, hcell⟩ := hc i l[i] (List.getElem?_eq_getElem hi)
  have hk' : cs = [.int .i64 l[i]] := hk
  subst hk'
  have := hcell 0 _ rfl
  exact ⟨ad, e, by simpa [Kd.int, Kd.scalar] using this⟩
theorem posL_snoc (q : List (TN × List Int)) (p : TN × List Int) : posL (q ++ [p]) = posL q ++ if isPos p.1 = true then [p] else [] := by
  unfold posL
  rw [List.filter_append, List.filter_cons, List.filter_nil]
namespace S2
variable {base zs : Nat} {wz : World} {g : Nat} {t : TN} {At : Option Addr} {ct : Nat} {v1 v2 v3 vn v' : Value} {ns : List Int} {N : Nat → Int} {q : List (TN × List Int)} {S : List (Int × Int)} {i : Nat} {ps : List (Value × List Int)} {w w' : World} {p : TN × List Int}
theorem below (h : S2 base zs wz g t At ct v2 vn ns N q S i v1 v3 ps w) (hb : Below w.heap.size w w') : S2 base zs wz g t At ct v2 vn ns N q S i v1 v3 ps w' := ⟨h.z.below hb, h.map.below hb, h.m1, h.m3, (KeepI.of_below (base := 0) hb).ow' h.num, h.fit⟩
theorem skip (h : S2 base zs wz g t At ct v2 vn ns N q S i v1 v3 ps w) (hp : q[i]? = some p) (hn : isPos p.1 = false) : S2 base zs wz g t At ct v2 vn ns N q S (i + 1) v1 v3 ps w := by
  have e : posL (q.take (i + 1)) = posL (q.take i) := by rw [List.take_add_one, hp, Option.toList_some, posL_snoc, hn]; simp
  obtain ⟨a, b, c, d, f, k⟩ := h
  refine ⟨a, ?_, c, d, f, by rw [e]; exact k⟩
  unfold col2 at b ⊢
  rw [e]
  exact b
theorem len (h : S2 base zs wz g t At ct v2 vn ns N q S i v1 v3 ps w) : ps.length = (posL (q.take i)).length + 1 := by
  have := congrArg List.length h.map.lists
  simpa [col2] using this
theorem push (h : S2 base zs wz g t At ct v2 vn ns N q S i v1 v3 ps w) (hp : q[i]? = some p) (hn : isPos p.1 = true) (h4 : ¬ ((arN N p.2).length : Int) > 4) {u1 u3 u : Value} (hz : Zo base zs wz w')
    (hm : MapIs w' g base t At ct u1 v2 u3 (ps ++ [(u, arN N p.2)]) ⟨(col2 N (q.take i) S).sets ++ [p.1.f1], S, (col2 N (q.take i) S).ars ++ [arN N p.2]⟩) (m1 : Mine base zs wz.heap.size u1) (m3 : Mine base zs wz.heap.size u3) (hnum : Ow w' wz.heap.size 3 vn (ints ns)) :
    S2 base zs wz g t At ct v2 vn ns N q S (i + 1) u1 u3 (ps ++ [(u, arN N p.2)]) w' := by
  have e : posL (q.take (i + 1)) = posL (q.take i) ++ [p] := by rw [List.take_add_one, hp, Option.toList_some, posL_snoc, hn]; rfl
  refine ⟨hz, ?_, m1, m3, hnum, ?_⟩
  · have e2 : col2 N (q.take (i + 1)) S = ⟨(col2 N (q.take i) S).sets ++ [p.1.f1], S, (col2 N (q.take i) S).ars ++ [arN N p.2]⟩ := by
      unfold col2
      rw [e]
      simp
    rw [e2]
    exact hm
  · rw [e, List.map_append, List.any_append, h.fit]
    simpa using h4
end S2
theorem arN_len (N : Nat → Int) (p : List Int) : (arN N p).length ≤ p.length := List.length_filterMap_le _ _
theorem refM_big {t : TN} {p : TN × List Int} (hm : p ∈ nodT [] 0 t) (hp : isPos p.1 = true) (h : ((arN (fun i => (numO t).getD i (-1)) p.2).length : Int) > 4) : bigM (refM t) = true := by
  unfold bigM refM colM
  rw [Bool.or_eq_true]
  right
  refine List.any_eq_true.2 ⟨_, List.mem_append_right _ (List.mem_map.2 ⟨p, ?_, rfl⟩), decide_eq_true h⟩
  unfold posL
  exact List.mem_filter.2 ⟨hm, hp⟩
theorem posL_len (q : List (TN × List Int)) : (posL q).length ≤ q.length := List.length_filter_le _ _
set_option maxHeartbeats 8000000 in
set_option maxRecDepth 100000 in
theorem rof_ok (x : S27) (A : Option Addr) (c : Nat) (w : World) (hf : formedT x = true) (hc : cntT x ≤ 10000) (h : Tr w x A c) : Calls Try.prog 14 #[ndV x A c] w fun e w' =>
    (bigM (ofM x) = true ∧ e = .returned (.tuple #[zMapV, .int .i64 3]) ∨ bigM (ofM x) = false ∧ ∃ g At ct v1 v2 v3 ps, e = .returned (.tuple #[.agg (nC8 (simpleT x) At ct ++ [v1, v2, v3]).toArray, .int .i64 0]) ∧ Tr w' (simpleT x) At ct ∧ MapIs w' g w.heap.size (simpleT x) At ct v1 v2 v3 ps (ofM x)) ∧ Below w.heap.size w w' := by
  obtain ⟨iS, hiS, hzS0, hzS1, hzS2⟩ := info_parts infoS
  obtain ⟨iI, hiI, hzI0, hzI1, hzI2⟩ := info_parts infoI
  obtain ⟨iC, hiC, hzC0, hzC1, hzC2⟩ := info_parts infoC
  obtain ⟨iA, hiA, hzA0, hzA1, hzA2⟩ := info_parts infoA
  have hF0 := Kd.C_F k27_heap h.row
  have hs := fun w' (h : Kd.F k27 w' (fun k => k < w.heap.size) A x.f2.length x.f2) (hl : x.f2.length ≤ c) => tr_refSimpleF (fun k => k < w.heap.size) x A c w' hf (by omega) hl h
  have hcs : cntT (simpleT x) ≤ 10000 := by have := (simpleT_ok _ x (Nat.lt_succ_self _) (ok_formed hf)).2; omega
  have hfs : formedT (simpleT x) = true := formed_simple hf
  have hom : refM (simpleT x) = ofM x := (refM_walk (simpleT x)).symm
  go_enter Try.func14, Try.ntmps14
  unfold ndV at hs ⊢
  go_wp2_with fail
  refine (hs _ (Kd.F_alloc (Kd.F_alloc hF0 _) _) h.cap).mono ?_
  rintro e w1 ⟨At, ct, rfl, ⟨hF1, hl1⟩, hb⟩
  replace hF1 := Kd.F_mono (ok' := fun k => k ≠ w.heap.size + 1) hF1 (by intro k hk; simp only [size_alloc2] at hk; omega)
  have hr0 : ((w.alloc (.cells (nC8 x A c).toArray 27)).alloc (.cells zMapC 34)).heap[w.heap.size + 1]? = some (.cells zMapC 34) := by
    have := heap_alloc_new (w.alloc (.cells (nC8 x A c).toArray 27)) (.cells zMapC 34)
    rwa [show (w.alloc (.cells (nC8 x A c).toArray 27)).heap.size = w.heap.size + 1 by simp] at this
  have hb0 : Below w.heap.size w w1 := (((Below.refl w.heap.size w).alloc (Nat.le_refl _) (.cells (nC8 x A c).toArray 27)).alloc (by simp) (.cells zMapC 34)).trans (hb.mono (by simp; omega))
  have hr1 := blk_below hr0 hb
  have hs1 := hb0.size
  have hlt := blk_lt hr1
  clear hb hr0 hs h hF0
  obtain ⟨t, ht⟩ : ∃ t, t = simpleT x := ⟨_, rfl⟩
  obtain ⟨M, hM⟩ : ∃ M, M = ofM x := ⟨_, rfl⟩
  rw [← hM] at hom
  rw [← ht] at hcs hfs hom hF1 hl1 ⊢
  have HT := Lib.hid (And.intro ht hM)
  clear ht hM
  go_upto_region 2 with fail
  have hba := (Below.refl w1.heap.size w1).alloc (Nat.le_refl _) (.cells (nC8 t At ct).toArray 27)
  have hnx : (w1.alloc (.cells (nC8 t At ct).toArray 27)).heap[w1.heap.size]? = some (.cells (nC8 t At ct).toArray 27) := heap_alloc_new w1 _
  have hrx := blk_below hr1 hba
  have hbx := hb0.alloc hs1 (.cells (nC8 t At ct).toArray 27)
  have hszx : (w1.alloc (.cells (nC8 t At ct).toArray 27)).heap.size = w1.heap.size + 1 := by simp
  have hFx := Kd.F_alloc (Kd.F_bound hF1) (.cells (nC8 t At ct).toArray 27)
  obtain ⟨w2, hw2⟩ : ∃ w2, w2 = w1.alloc (.cells (nC8 t At ct).toArray 27) := ⟨_, rfl⟩
  rw [← hw2] at hnx hrx hbx hszx hFx
  have hw2' := hw2
  unfold nC8 at hw2'
  try rw [← hw2']
  have HW2 := Lib.hid hw2
  clear hw2 hw2' hba hF1
  unfold nC8 at hnx
  obtain ⟨k0, k1, k2, k3, k4, k5, k6, k7, fk0, fk1, fk2, fk3, fk4, fk5, fk6, fk7⟩ := n_cells hnx
  go_cut [5] (fun s5 wx => ∃ g sa sb, s5 = .pointer (some ⟨g, 0, none⟩) ∧ MapIs wx g w2.heap.size t At ct (.slice (some ⟨sa, 0, none⟩) 1 1) (.slice none 0 0) (.slice (some ⟨sb, 0, none⟩) 1 1) [(.slice none 0 0, [])] m0 ∧ Below w2.heap.size w2 wx)
  case first =>
    go_wp2
    go_meet
    obtain ⟨q1, q2⟩ := mapIs_new1 w2 _ hszx t At ct
    rw [hszx]
    exact ⟨w1.heap.size + 1 + 1 + 1, w1.heap.size + 1, w1.heap.size + 1 + 1, rfl, q1.undrew, below_undrew q2⟩
  case rest =>
    obtain ⟨g, sa, sb, rfl, hm, hbm⟩ := hcut
    clear k0 k1 k2 k3 k4 k5 k6 k7 fk0 fk1 fk2 fk3 fk4 fk5 fk6 fk7
    have hnz := blk_below hnx hbm
    obtain ⟨k0, k1, k2, k3, k4, k5, k6, k7, fk0, fk1, fk2, fk3, fk4, fk5, fk6, fk7⟩ := n_cells hnz
    have hFz := Kd.F_below hFx hbm
    have hnod := nodes_any _ t At ct wc hcs hl1 hFz
    have hsz := hbm.size
    have hmz := hm.size
    unfold ndV at hnod
    have HX := Lib.hid hrx
    clear hrx
    go_wp2_with fail
    refine hnod.mono ?_
    rintro e wz ⟨Al, cl, Ap, cp, rfl, hFl, hFp, hbz⟩
    clear hnod k0 k1 k2 k3 k4 k5 k6 k7 fk0 fk1 fk2 fk3 fk4 fk5 fk6 fk7 hnz hnx
    have hrz := blk_below (blk_below HX.out hbm) hbz
    have hFt := Kd.F_below hFz hbz
    have hwz : w2.heap.size ≤ wz.heap.size := by have := hbz.size; omega
    have hFl' : Kd.F k27 wz (fun k => k < w2.heap.size ∨ wc.heap.size ≤ k) Al (ndL t).length (ndL t) := Kd.F_mono hFl (fun k hk => hk.elim (fun a => .inl (by have := a.2; omega)) .inr)
    have hFp' : Kd.F (Kd.slice 3 (Kd.int .i64)) wz (fun k => k < w2.heap.size ∨ wc.heap.size ≤ k) Ap (ptL t).length (ptL t) := Kd.F_mono hFp (fun k hk => hk.elim (fun a => .inl (by have := a.2; omega)) .inr)
    have hmw := hm.below hbz
    have hgm := row_blk hm.sets sa rfl
    have hgs := row_blk hm.ars sb rfl
    have hgg := blk_lt hm.blk
    have hgl := hm.le
    have hmi1 : Mine w2.heap.size wc.heap.size wz.heap.size (.slice (some ⟨sa, 0, none⟩) 1 1) := fun k hk => by
      have : sa = k := by simpa [Value.ownBlock] using hk
      subst this
      exact .inl ⟨hgm.1, hgm.2.1⟩
    have hmi3 : Mine w2.heap.size wc.heap.size wz.heap.size (.slice (some ⟨sb, 0, none⟩) 1 1) := fun k hk => by
      have : sb = k := by simpa [Value.ownBlock] using hk
      subst this
      exact .inl ⟨hgs.1, hgs.2.1⟩
    have hbw := hbx.trans ((hbm.trans (hbz.mono hsz)).mono hbx.size)
    have hn : (ndL t).length = cntT t := by unfold ndL; rw [List.length_map, nodT_len]
    have hnp : (ptL t).length = cntT t := by unfold ptL; rw [List.length_map, nodT_len]
    have hfm : ∀ y ∈ ndL t, formedT y = true := by
      intro y hy
      unfold ndL at hy
      obtain ⟨p, hp, rfl⟩ := List.mem_map.1 hy
      exact nodT_formed _ _ _ hfs p hp
    have st0 : S1 w2.heap.size wc.heap.size wz g t At ct (.slice (some ⟨sa, 0, none⟩) 1 1) (.slice (some ⟨sb, 0, none⟩) 1 1) (SC ((ndL t).take 0)) (numG 0 ((ndL t).take 0)) (.slice none 0 0) (.slice none 0 0) wz := ⟨Zo.refl _ _ _, hmw, Mine.nil _ _ _, World.ownsRow_nil _ _ _ _⟩
    have HFL := Lib.hid hFl'
    have HFP := Lib.hid hFp'
    have HFT := Lib.hid hFt
    have HRZ := Lib.hid hrz
    have HMI := Lib.hid (And.intro hmi1 hmi3)
    have HFM := Lib.hid hfm
    have HFS := Lib.hid hfs
    have HOM := Lib.hid hom
    have HBW := Lib.hid hbw
    clear hmw hmi1 hmi3 hFl' hFp' hFl hFp hFt hFz hrz hfm hfs hbw hm hbm hbz hFx hbx hgm hgs hb0 hr1 HX hom
    rw [hnp]
    rw [hn]
    obtain ⟨n, hnn⟩ : ∃ n, n = cntT t := ⟨_, rfl⟩
    rw [← hnn] at hn hnp hcs ⊢
    have HNN := Lib.hid hnn
    clear hnn
    go_wp2_with fail
    go_loopg [8, 9] n (fun gg s8 s9 wr => ∃ (i : Nat) (vn v2 : Value), i ≤ n ∧ n - i ≤ gg ∧ s8 = vn ∧ s9 = .int .i64 i ∧ Hid (S1 w2.heap.size wc.heap.size wz g t At ct (.slice (some ⟨sa, 0, none⟩) 1 1) (.slice (some ⟨sb, 0, none⟩) 1 1) (SC ((ndL t).take i)) (numG 0 ((ndL t).take i)) vn v2 wr))
    case atStart => exact ⟨0, _, _, by omega, by omega, rfl, rfl, Lib.hid st0⟩
    case round =>
      obtain ⟨i, vn, v2, hi, hgi, rfl, rfl, HS⟩ := hrel
      by_cases hlt : i < n
      · have hs := HS.out
        have hiy : i < (ndL t).length := by omega
        have hlC := hs.z.C HFL.out
        obtain ⟨ad, A5, c5, hA, q0, q1, q2, q3, q4, q5, q6, q7, l5, g5⟩ := at_T27 hlC (i : Int) (by omega) (by omega)
        have hp : rd_T27 (ndL t) (i : Int) = (ndL t)[i] := rdN _ _ hiy
        have hym := HFM.out _ (List.getElem_mem hiy)
        have htk : (ndL t).take (i + 1) = (ndL t).take i ++ [(ndL t)[i]] := List.take_succ_eq_append_getElem hiy
        rw [hp] at q0 q1 q2 q3 q4 q5 q6 q7 l5 g5
        generalize (ndL t)[i] = y at *
        rw [Int.toNat_natCast] at q0 q1 q2 q3 q4 q5 q6 q7
        obtain ⟨a, b, hab, hcall⟩ := rcounts_any y A5 c5 wr (fun h4 => by obtain ⟨_, h1, _, h2⟩ := (formedT_kind hym).2.2.1 h4; exact ⟨h1, by omega⟩) ⟨g5, l5⟩
        have HK := Lib.hid htk
        have HAB := Lib.hid hab
        clear htk hab hp hym l5 g5 hlC
        unfold ndV at hcall
        subst hA
        go_wp2_with fail
        refine hcall.mono ?_
        rintro e wa ⟨rfl, hba⟩
        go_upto_region 9 with fail
        have hsb := (HS.out.below hba).below ((Below.refl wa.heap.size wa).alloc (Nat.le_refl _) (.cells #[.int .i64 a, .int .i64 b] 45))
        have hq10 : (wa.alloc (.cells #[.int .i64 a, .int .i64 b] 45)).heap[wa.heap.size]? = some (.cells #[.int .i64 a, .int .i64 b] 45) := heap_alloc_new wa _
        clear hs q0 q1 q2 q3 q4 q5 q6 q7 HS hba hcall
        generalize wa.alloc (.cells #[.int .i64 a, .int .i64 b] 45) = wb at *
        generalize wa.heap.size = gs at *
        have hlen : (numG 0 ((ndL t).take i)).length = i := by rw [numG_len, List.length_take]; omega
        obtain ⟨l, hl⟩ : ∃ l, l = numG 0 ((ndL t).take i) := ⟨_, rfl⟩
        obtain ⟨S, hS⟩ : ∃ S, S = SC ((ndL t).take i) := ⟨_, rfl⟩
        have hSi : S.length ≤ i := by rw [hS]; unfold SC; rw [List.length_map]; exact Nat.le_trans (List.length_filter_le _ _) (by rw [List.length_take]; omega)
        have hSn : S.length = ctN ((ndL t).take i) := by rw [hS, ctN_filter]; unfold SC; rw [List.length_map]
        rw [← hl] at hlen
        rw [← hl, ← hS] at hsb
        have HLS := Lib.hid (And.intro hl (And.intro hS hSn))
        clear hl hS hSn
        have hnum := hsb.num
        unfold Ow at hnum
        rw [ints_length, hlen] at hnum
        obtain ⟨gn, cn, w3, hr3, hq3, hg3, hl3⟩ := app_rowZ (P := Try.prog) wb 42 3 _ 1 8 Try.underlying42 hiI hzI0 hzI1 hzI2 rfl (by omega) u8 i (ints l) hnum hsb.z.size [.int .i64 (-1)] rfl (by simp [Value.oneCell']) (by omega) (by omega)
        have hs3 := hsb.app hlen.symm hq3 hg3
        have hb3 := blk_grown hq10 hg3 (row_ne hnum hq10 (by decide))
        cases hct : ctB y with
        | false =>
          have HSB := Lib.hid hs3
          clear hs3 hsb hnum hq3 hg3 hb3 hq10
          go_wp2
          go_roundg (n - (i + 1))
          case measure => omega
          case rel =>
            refine ⟨i + 1, _, v2, by omega, by omega, rfl, by go_num, Lib.hid ?_⟩
            rw [HK.out, numG_app, show SC ((ndL t).take i ++ [y]) = S by rw [HLS.out.2.1]; unfold SC; rw [List.filter_append, List.filter_cons, hct]; simp, ← HLS.out.1]
            have e : numG (0 + ctN ((ndL t).take i)) [y] = [-1] := by simp [numG, hct]
            rw [e]
            exact HSB.out
        | true =>
          obtain ⟨A2, c2, rfl⟩ : ∃ A c, v2 = .slice A S.length c := row_form hs3.map.scs
          have e9 : w3.cell? ⟨g, 9, none⟩ = some (.slice A2 S.length c2) := (blk_cell hs3.map.blk 9).trans rfl
          have hl4 : i + 1 = (l ++ [-1]).length := by rw [List.length_append, hlen]; rfl
          have hq3n : w3.ownsRow wz.heap.size 3 1 (.slice (some ⟨gn, 0, none⟩) (i + 1) cn) (i + 1) (nums .i64 (l ++ [-1])) := by
            have := hq3
            rw [← ints_app] at this
            exact this
          obtain ⟨cn3, fn3⟩ := own_at hq3n (i : Int) (by omega) (by omega)
          rw [Int.toNat_natCast] at cn3 fn3
          have hgn := row_blk hq3 gn rfl
          have hne := row_ne hq3 hb3 (by decide)
          have hb4 := blk_far hb3 (p := ⟨gn, i, none⟩) (fun e => hne (by simp only at e; rw [e]; rfl)) (.int .i64 (S.length : Int))
          have hs4 := hs3.store hl4 i (S.length : Int)
          clear hsb hnum hq10 hq3 hg3 hb3 hs3 hl3 hq3n hne hl4
          have hgn1 := hgn.2.1
          go_upto_region 12 with fail
          generalize w3.setCell ⟨gn, i, none⟩ (.int .i64 (S.length : Int)) = w4 at *
          clear e9 cn3 fn3 hr3 hgn hgn1
          have e9 : w4.cell? ⟨g, 9, none⟩ = some (.slice A2 S.length c2) := (blk_cell hs4.map.blk 9).trans rfl
          have s0 : w4.cell? ⟨gs, 0, none⟩ = some (.int .i64 a) := (blk_cell hb4 0).trans rfl
          have s1 : w4.cell? ⟨gs, 1, none⟩ = some (.int .i64 b) := (blk_cell hb4 1).trans rfl
          obtain ⟨g5, c5', w5, hr5, hq5, hg5, hl5⟩ := app_rowZ (P := Try.prog) w4 31 45 _ 2 16 Try.underlying31 hiS hzS0 hzS1 hzS2 rfl (by omega) (.slice A2 S.length c2) S.length (scC S) hs4.map.scs hs4.map.size [.int .i64 a, .int .i64 b] rfl (by simp [Value.oneCell']) (by omega) (by omega)
          have b5 := blk_grown hs4.map.blk hg5 (row_ne hs4.map.scs hs4.map.blk (by decide))
          have e95 : w5.cell? ⟨g, 9, none⟩ = some (.slice A2 S.length c2) := (blk_cell b5 9).trans rfl
          have f95 : w5.frozen? ⟨g, 9, none⟩ = false := blk_frozen b5 9
          have lg4 := blk_lt hs4.map.blk
          have lg5 := blk_lt b5
          have ls4 := blk_lt hb4
          have HS6 := Lib.hid (hs4.sc (s := (a, b)) hq5 hg5 (hs4.m2.next hl5 hs4.z.size) hgg)
          clear hs4 hb4 hq5 hg5 hl5 b5
          go_wp2
          go_roundg (n - (i + 1))
          case measure => omega
          case rel =>
            refine ⟨i + 1, _, .slice (some ⟨g5, 0, none⟩) (S.length + 1) c5', by omega, by omega, rfl, by go_num, Lib.hid ?_⟩
            obtain ⟨ea, eb⟩ := HAB.out hct
            have es : SC ((ndL t).take i ++ [y]) = S ++ [(a, b)] := by
              rw [HLS.out.2.1, ea, eb]
              unfold SC
              rw [List.filter_append, List.filter_cons, hct]
              simp
            have e1 : numG (0 + ctN ((ndL t).take i)) [y] = [(S.length : Int)] := by
              simp [numG, hct, HLS.out.2.2]
            have e2 : (l ++ [-1]).set i (S.length : Int) = l ++ [(S.length : Int)] := by
              rw [List.set_append_right _ _ (by omega), hlen, Nat.sub_self]
              rfl
            rw [HK.out, numG_app, es, e1, ← HLS.out.1, ← e2]
            exact HS6.out
      · obtain rfl : i = n := by omega
        have hs := HS.out
        rw [List.take_of_length_le (by omega)] at hs
        obtain ⟨ns, hns⟩ : ∃ ns, ns = numG 0 (ndL t) := ⟨_, rfl⟩
        obtain ⟨S, hS⟩ : ∃ S, S = SC (ndL t) := ⟨_, rfl⟩
        obtain ⟨q, hq⟩ : ∃ q, q = nodT [] 0 t := ⟨_, rfl⟩
        have hqn : q.length = i := by rw [hq, nodT_len]; exact HNN.out.symm
        have hnl : ns.length = i := by rw [hns, numG_len]; omega
        have hSl : S.length ≤ i := by rw [hS]; unfold SC; rw [List.length_map]; exact Nat.le_trans (List.length_filter_le _ _) (by omega)
        have hi1 : 1 ≤ i := by rw [HNN.out]; exact cnt_pos t
        rw [← hns, ← hS] at hs
        have st2 : S2 w2.heap.size wc.heap.size wz g t At ct v2 u8 ns (fun i => ns.getD i (-1)) q S 0 (.slice (some ⟨sa, 0, none⟩) 1 1) (.slice (some ⟨sb, 0, none⟩) 1 1) [(.slice none 0 0, [])] wr := by
          refine ⟨hs.z, ?_, HMI.out.1, HMI.out.2, hs.num, rfl⟩
          have := hs.map
          have e : col2 (fun i => ns.getD i (-1)) (q.take 0) S = ⟨[zS], S, [[]]⟩ := by simp [col2, posL]
          rw [e]
          exact this
        have hnum := hs.num
        unfold Ow at hnum
        obtain ⟨n1, hn1⟩ : ∃ n1, i = n1 + 1 := ⟨i - 1, by omega⟩
        rw [ints_length, hnl, hn1] at hnum
        obtain ⟨gn, cn, rfl⟩ := ownsRow_succ hnum
        rw [← hn1] at *
        obtain ⟨A2, c2, rfl⟩ : ∃ A c, v2 = .slice A S.length c := row_form hs.map.scs
        have HQ := Lib.hid (And.intro hq (And.intro hns hS))
        clear hnum hs HS HMI hn1 n1 hq hns hS st0
        go_wp2_with fail
        go_loopg [12] i (fun gg s12 wr => ∃ (j : Nat) (v1 v3 : Value) (ps : List (Value × List Int)), j ≤ i ∧ i - j ≤ gg ∧ s12 = .int .i64 j ∧ Hid (S2 w2.heap.size wc.heap.size wz g t At ct (.slice A2 S.length c2) (.slice (some ⟨gn, 0, none⟩) i cn) ns (fun i => ns.getD i (-1)) q S j v1 v3 ps wr))
        case atStart => exact ⟨0, _, _, _, by omega, by omega, rfl, Lib.hid st2⟩
        case round =>
          obtain ⟨j, v1, v3, ps, hj, hgj, rfl, HS⟩ := hrel
          by_cases hlj : j < i
          · have hs := HS.out
            have hjq : j < q.length := by omega
            have hjn : j < (ndL t).length := by omega
            have hjp : j < (ptL t).length := by omega
            have hget : q[j]? = some q[j] := List.getElem?_eq_getElem hjq
            have hmem : q[j] ∈ q := List.getElem_mem hjq
            have hy : (ndL t)[j] = q[j].1 := by
              have e := HQ.out.1
              subst e
              simp [ndL]
            have hpt : (ptL t)[j] = q[j].2 := by
              have e := HQ.out.1
              subst e
              simp [ptL]
            generalize q[j] = yp at *
            obtain ⟨y, pt⟩ := yp
            simp only at hy hpt
            have hpr := nodT_path [] 0 t (y, pt) (by rw [← HQ.out.1]; exact hmem)
            have hpl : pt.length + 1 ≤ i := by have := hpr.1; rw [← HNN.out] at this; simp only [List.length_nil] at this; omega
            have hlC := hs.z.C HFL.out
            obtain ⟨ad, A5, c5, hA, q0, q1, q2, q3, q4, q5, q6, q7, l5, g5⟩ := at_T27 hlC (j : Int) (by omega) (by omega)
            have hp : rd_T27 (ndL t) (j : Int) = y := by rw [rdN _ _ hjn, hy]
            rw [hp] at q0 q1 q2 q3 q4 q5 q6 q7 l5 g5
            rw [Int.toNat_natCast] at q0 q1 q2 q3 q4 q5 q6 q7
            obtain ⟨ap, B, d, hAp, hpc, hpC⟩ := path_at (hs.z.C HFP.out) hjp
            rw [hpt] at hpc hpC
            clear q5 q6 q7 l5 g5 hp hlC hy hpt
            subst hA hAp
            have HM := Lib.hid (And.intro hget hmem)
            clear hget hmem
            by_cases h1 : y.f0 = 1
            · have e1 : (y.f0 == 1) = true := by simp [h1]
              cases hem : emptyB y.f1 with
              | true =>
                have hem' : (y.f1.f0 == 0 && (y.f1.f1 == 0 && (y.f1.f2 == 0 && y.f1.f3 == 0))) = true := hem
                have HN := Lib.hid (hs.skip HM.out.1 (by unfold isPos; simp [hem]))
                clear hs hem
                go_wp2
                go_roundg (i - (j + 1))
                case measure => omega
                case rel => exact ⟨j + 1, v1, v3, ps, by omega, by omega, by go_num, HN⟩
              | false =>
                have hem' : (y.f1.f0 == 0 && (y.f1.f1 == 0 && (y.f1.f2 == 0 && y.f1.f3 == 0))) = false := hem
                have hpos : isPos y = true := by unfold isPos; simp [hem, h1]
                have HPR := Lib.hid hpr
                have HPS := Lib.hid hpos
                have HPC := Lib.hid hpC
                clear hs hem hpr hpos hpC
                generalize wr = wo at *
                go_wp2_with fail
                go_loopg [13, 14] pt.length (fun hh s13 s14 wi => ∃ (k : Nat) (va : Value), k ≤ pt.length ∧ pt.length - k ≤ hh ∧ s13 = va ∧ s14 = .int .i64 k ∧ Hid (Below wo.heap.size wo wi ∧ Ow wi wo.heap.size 3 va (ints (arN (fun i => ns.getD i (-1)) (pt.take k)))))
                case atStart => exact ⟨0, _, by omega, by omega, rfl, rfl, Lib.hid ⟨Below.refl _ _, Ow.nil _ _ _⟩⟩
                case round =>
                  obtain ⟨k, va, hk, hgk, rfl, rfl, HI⟩ := hrel
                  have hbi := HI.out.1
                  have hpc' := cell_on hbi hpc
                  have hsi := HS.out.below hbi
                  by_cases hlk : k < pt.length
                  · obtain ⟨ab, hB, hck⟩ := intAt HPC.out hlk
                    have hck' := cell_on hbi hck
                    have hpk := HPR.out.2 _ (List.getElem_mem hlk)
                    have htk : pt.take (k + 1) = pt.take k ++ [pt[k]] := List.take_succ_eq_append_getElem hlk
                    generalize pt[k] = jv at *
                    rw [← HNN.out] at hpk
                    have hpk' : 0 ≤ jv ∧ jv < i := by
                      rcases hpk with h | h
                      · cases h
                      · omega
                    obtain ⟨jn, rfl⟩ : ∃ jn : Nat, jv = (jn : Int) := ⟨jv.toNat, by omega⟩
                    have hjn' : jn < ns.length := by omega
                    have hnr := hsi.num
                    unfold Ow at hnr
                    rw [ints_length, hnl] at hnr
                    have hnr' : wr.ownsRow wz.heap.size 3 1 (.slice (some ⟨gn, 0, none⟩) i cn) i (nums .i64 ns) := hnr
                    obtain ⟨hcn, _⟩ := own_at hnr' (jn : Int) (by omega) (by omega)
                    have hrd : rd ns (jn : Int) = ns.getD jn (-1) := by
                      simp [rd, List.getD_eq_getElem?_getD, List.getElem?_eq_getElem hjn']
                    rw [hrd, Int.toNat_natCast] at hcn
                    have hsn := arN_snoc (fun i => ns.getD i (-1)) (pt.take k) (jn : Int)
                    rw [← htk, Int.toNat_natCast] at hsn
                    try simp only at hsn
                    have hva := HI.out.2
                    unfold Ow at hva
                    rw [ints_length] at hva
                    have hal := arN_len (fun i => ns.getD i (-1)) (pt.take k)
                    rw [List.length_take] at hal
                    generalize ns.getD jn (-1) = v at *
                    obtain ⟨al, hae⟩ : ∃ al, al = arN (fun i => ns.getD i (-1)) (pt.take k) := ⟨_, rfl⟩
                    rw [← hae] at hsn hva hal
                    have hbs := hbi.size
                    obtain ⟨ga, ca, w', hr', hq', hg', _⟩ := app_rowZ (P := Try.prog) wr 42 3 _ 1 8 Try.underlying42 hiI hzI0 hzI1 hzI2 rfl (by omega) u13 al.length (ints al) hva hbs [.int .i64 v] rfl (by simp [Value.oneCell']) (by omega) (by omega)
                    have hlast : Below wo.heap.size wo w' := hbi.grown hg' hbs (fun k e => (row_blk hva k e).1)
                    have HZ := Lib.hid (And.intro hae (And.intro hva (And.intro hsn (And.intro hbi (And.intro hlast hq')))))
                    clear hae hva hsn hbi hlast hq' hsi hnr hnr' hrd hpk htk hck hpc hpk' hg'
                    subst hB
                    by_cases hv : v ≥ 0
                    · go_wp2
                      go_roundg (pt.length - (k + 1))
                      case measure => omega
                      case rel =>
                        refine ⟨k + 1, _, by omega, by omega, rfl, by go_num, Lib.hid ⟨HZ.out.2.2.2.2.1, ?_⟩⟩
                        rw [HZ.out.2.2.1, if_pos hv]
                        unfold Ow
                        rw [ints_app, List.length_append, ints_length]
                        exact HZ.out.2.2.2.2.2
                    · go_wp2
                      go_roundg (pt.length - (k + 1))
                      case measure => omega
                      case rel =>
                        refine ⟨k + 1, _, by omega, by omega, rfl, by go_num, Lib.hid ⟨HZ.out.2.2.2.1, ?_⟩⟩
                        rw [HZ.out.2.2.1, if_neg (by omega), List.append_nil]
                        have := HI.out.2
                        rw [← HZ.out.1] at this
                        exact this
                  · obtain rfl : k = pt.length := by omega
                    have hva := HI.out.2
                    rw [List.take_length] at hva
                    unfold Ow at hva
                    rw [ints_length] at hva
                    have hal := arN_len (fun i => ns.getD i (-1)) pt
                    have hrz : wr.heap[w.heap.size + 1]? = some (.cells zMapC 34) := by
                      have e1 := hsi.z.block (w.heap.size + 1) (blk_lt HRZ.out) (.inl (by omega))
                      rw [e1]
                      exact HRZ.out
                    have hb3 : Below w.heap.size w wr := HBW.out.trans ((hsi.z.toBelow hwz).mono (by omega))
                    have hbig : ((arN (fun i => ns.getD i (-1)) pt).length : Int) > 4 → bigM M = true := fun h => by
                      rw [← HOM.out]
                      refine refM_big (p := (y, pt)) (by rw [← HQ.out.1]; exact HM.out.2) HPS.out ?_
                      have : numO t = ns := by rw [HQ.out.2.1]; rfl
                      rw [this]
                      exact h
                    have hpsh := fun h4 {w'} {u1 u3 u : Value} => S2.push (w' := w') (u1 := u1) (u3 := u3) (u := u) hsi HM.out.1 HPS.out h4
                    simp only at hpsh
                    obtain ⟨al, hae⟩ : ∃ al, al = arN (fun i => ns.getD i (-1)) pt := ⟨_, rfl⟩
                    rw [← hae] at hva hal hbig hpsh
                    obtain ⟨Av, cv, rfl⟩ := row_form hva
                    have HZ := Lib.hid (And.intro hae hva)
                    by_cases h4 : (al.length : Int) > 4
                    · have hbg := hbig h4
                      rw [HT.out.2] at hbg
                      have HBG := Lib.hid hbg
                      clear hpsh hbig hva hae hbg hbi hsi
                      unfold zMapC at hrz
                      obtain ⟨k0, k1, k2, k3, k4, k5, k6, k7, k8, k9, k10, f0, f1, f2, f3, f4, f5, f6, f7, f8, f9, f10⟩ := m_cells hrz
                      have hlt3 := blk_lt hrz
                      have hbf := fun v0 v1 v2 v3 v4 v5 v6 v7 v8 v9 v10 => below11 (v0 := v0) (v1 := v1) (v2 := v2) (v3 := v3) (v4 := v4) (v5 := v5) (v6 := v6) (v7 := v7) (v8 := v8) (v9 := v9) (v10 := v10) hb3 (Nat.le_succ w.heap.size)
                      go_wp2
                      refine bodyPost_ret (results_ct rfl _ _ (w.heap.size + 1) 34 #[.int .i64 0, .int .u64 0, .int .u64 0, .int .u64 0, .int .u64 0, .slice none 0 0, .int .i64 0, .int .i64 0, .slice none 0 0, .slice none 0 0, .slice none 0 0] (0, 0) _ rfl ?hg Try.underlying34 rfl (by kernel_rfl)) rfl ?_
                      case hg => exact set11 hrz
                      exact ⟨.inl ⟨HBG.out, rfl⟩, hbf _ _ _ _ _ _ _ _ _ _ _⟩
                    · have HPSH := Lib.hid @hpsh
                      have hmi := hsi.map
                      have hlen1 : (col2 (fun i => ns.getD i (-1)) (q.take j) S).sets.length ≤ j + 1 := by
                        have := posL_len (q.take j)
                        rw [List.length_take] at this
                        simp [col2]
                        omega
                      have hlen3 : ps.length ≤ j + 1 := by
                        have h1 := hsi.len
                        have h2 := posL_len (q.take j)
                        rw [List.length_take] at h2
                        omega
                      have q1' := cell_on hbi q1
                      have q2' := cell_on hbi q2
                      have q3' := cell_on hbi q3
                      have q4' := cell_on hbi q4
                      have e8 : wr.cell? ⟨g, 8, none⟩ = some v1 := (blk_cell hmi.blk 8).trans rfl
                      obtain ⟨g8, c8, w5, hr5, hq5, hg5, hl5⟩ := app_rowZD (P := Try.prog) wr 30 24 _ 4 32 Try.underlying30 hiC hzC0 hzC1 hzC2 rfl (by omega) v1 _ _ hmi.sets hmi.size [.int .u64 y.f1.f0, .int .u64 y.f1.f1, .int .u64 y.f1.f2, .int .u64 y.f1.f3] rfl (by simp [Value.oneCell']) (by omega) (by omega)
                      have b5 := blk_grown hmi.blk hg5 (row_ne hmi.sets hmi.blk (by decide))
                      have e85 : w5.cell? ⟨g, 8, none⟩ = some v1 := (blk_cell b5 8).trans rfl
                      have f85 : w5.frozen? ⟨g, 8, none⟩ = false := blk_frozen b5 8
                      have lg := blk_lt hmi.blk
                      have lg5 := blk_lt b5
                      generalize hnc : (col2 (fun i => ns.getD i (-1)) (q.take j) S).sets.length = nc at *
                      have HNC := Lib.hid (And.intro hnc (And.intro hmi (And.intro hq5 (And.intro hg5 (And.intro hl5 (And.intro hbi hsi))))))
                      clear hnc hmi hq5 hg5 hl5 hbi hsi hpsh hbig hva hae hrz hb3 b5 q0 q1 q2 q3 q4 hpc
                      go_wp2_with fail
                      go_region
                      obtain ⟨rfl, hmi, hq5, hg5, hl5, hbi, hsi⟩ := HNC.out
                      obtain ⟨hm6, hk6⟩ := hmi.addSet (s := y.f1) hq5 hg5
                      have hz6 := (hsi.z.grown hg5 hsi.m1).setCell (p := ⟨g, 8, none⟩) hmi.le hgg (.slice (some ⟨g8, 0, none⟩) ((col2 (fun i => ns.getD i (-1)) (q.take j) S).sets.length + 1) c8)
                      have hm1' : Mine w2.heap.size wc.heap.size wz.heap.size (.slice (some ⟨g8, 0, none⟩) ((col2 (fun i => ns.getD i (-1)) (q.take j) S).sets.length + 1) c8) := hsi.m1.next hl5 hsi.z.size
                      have hnum6 := hk6.ow' hsi.num
                      have hva6 : Ow _ w2.heap.size 3 (.slice Av al.length cv) (ints al) := hk6.ow' (by
                        unfold Ow
                        rw [ints_length]
                        exact World.ownsRow.mono HZ.out.2 (by have := HS.out.z.size; omega))
                      have hm3 := hsi.m3
                      generalize w5.setCell ⟨g, 8, none⟩ (.slice (some ⟨g8, 0, none⟩) ((col2 (fun i => ns.getD i (-1)) (q.take j) S).sets.length + 1) c8) = w6 at *
                      generalize Value.slice (some ⟨g8, 0, none⟩) ((col2 (fun i => ns.getD i (-1)) (q.take j) S).sets.length + 1) c8 = u8' at *
                      have e10 : w6.cell? ⟨g, 10, none⟩ = some v3 := (blk_cell hm6.blk 10).trans rfl
                      obtain ⟨g7, c7, w7, hr7, hq7, hg7, hl7⟩ := app_rowZ (P := Try.prog) w6 32 42 _ 1 24 Try.underlying32 hiA hzA0 hzA1 hzA2 rfl (by omega) v3 ps.length (ps.map (·.1)) hm6.ars hm6.size [.slice Av al.length cv] rfl (ow_one hva6) (by omega) (by omega)
                      have b7 := blk_grown hm6.blk hg7 (row_ne hm6.ars hm6.blk (by decide))
                      have e107 : w7.cell? ⟨g, 10, none⟩ = some v3 := (blk_cell b7 10).trans rfl
                      have f107 : w7.frozen? ⟨g, 10, none⟩ = false := blk_frozen b7 10
                      have lg6 := blk_lt hm6.blk
                      have lg7 := blk_lt b7
                      have hm8 := hm6.addAr (l := al) hva6 hq7 hg7
                      have hz8 := (hz6.grown hg7 hm3).setCell (p := ⟨g, 10, none⟩) hm6.le hgg (.slice (some ⟨g7, 0, none⟩) (ps.length + 1) c7)
                      have HY := Lib.hid (And.intro hm8.1 (And.intro hz8 (And.intro hm1' (And.intro (hm3.next (n := ps.length + 1) (c := c7) hl7 hz6.size) (hm8.2.ow' hnum6)))))
                      clear hmi hq5 hg5 hl5 hbi hsi hm6 hk6 hz6 hm1' hnum6 hva6 hm3 hq7 hg7 hl7 b7 hm8 hz8 hr5 e8 e85 f85 HNC q1' q2' q3' q4'
                      go_wp2
                      go_roundg (i - (j + 1))
                      case measure => omega
                      case rel => exact ⟨j + 1, u8', .slice (some ⟨g7, 0, none⟩) (ps.length + 1) c7, ps ++ [(.slice Av al.length cv, al)], by omega, by omega, by go_num, Lib.hid (HPSH.out (by omega) HY.out.2.1 HY.out.1 HY.out.2.2.1 HY.out.2.2.2.1 HY.out.2.2.2.2)⟩
            · have e1 : (y.f0 == 1) = false := by simp [h1]
              have HN := Lib.hid (hs.skip HM.out.1 (by unfold isPos; simp [h1]))
              clear hs
              go_wp2
              go_roundg (i - (j + 1))
              case measure => omega
              case rel => exact ⟨j + 1, v1, v3, ps, by omega, by omega, by go_num, HN⟩
          · obtain rfl : j = i := by omega
            have hs := HS.out
            have hM2 : col2 (fun i => ns.getD i (-1)) (q.take j) S = M := by
              rw [← hqn, List.take_length, ← HOM.out, HQ.out.2.1, HQ.out.2.2, HQ.out.1]
              simp [refM, colM, col2, zS, numO, ndL]
            have hm3 := hs.map
            have hfit := hs.fit
            rw [hM2] at hm3
            have hany : M.ars.any (fun l => decide ((l.length : Int) > 4)) = false := by
              rw [← hM2]
              unfold col2
              rw [List.any_append, hfit]
              rfl
            have hbig : bigM M = decide ((M.sets.length : Int) > 41) := by
              unfold bigM
              rw [hany, Bool.or_false]
            have hSM : M.scs.length = S.length := by rw [← hM2]; rfl
            have hr3 : wr.heap[w.heap.size + 1]? = some (.cells zMapC 34) := by
              rw [hs.z.block (w.heap.size + 1) (blk_lt HRZ.out) (.inl (by omega))]
              exact HRZ.out
            have hb3 : Below w.heap.size w wr := HBW.out.trans ((hs.z.toBelow hwz).mono (by omega))
            have hF4 := Kd.F_step HFT.out (fun k hk hlt => hs.z.block k hlt (.inl (by have := hk.2; omega)))
            obtain ⟨A1, c1, rfl⟩ := row_form hm3.sets
            obtain ⟨A3, c3, rfl⟩ := row_form hm3.ars
            have hg2 := hm3.le
            obtain ⟨q0, q1, q2, q3, q4, q5, q6, q7, q8, q9, q10, gq0, gq1, gq2, gq3, gq4, gq5, gq6, gq7, gq8, gq9, gq10⟩ := m_cells hm3.blk
            have HMM := Lib.hid (And.intro hm3 hF4)
            clear hs hM2 hfit hany hm3 hF4 st2
            unfold zMapC at hr3
            obtain ⟨k0, k1, k2, k3, k4, k5, k6, k7, k8, k9, k10, f0, f1, f2, f3, f4, f5, f6, f7, f8, f9, f10⟩ := m_cells hr3
            have hlt3 := blk_lt hr3
            have hbf := fun v0 v1 v2 v3 v4 v5 v6 v7 v8 v9 v10 => below11 (v0 := v0) (v1 := v1) (v2 := v2) (v3 := v3) (v4 := v4) (v5 := v5) (v6 := v6) (v7 := v7) (v8 := v8) (v9 := v9) (v10 := v10) hb3 (Nat.le_succ w.heap.size)
            by_cases hset : (M.sets.length : Int) > 41
            · have hbg : bigM M = true := by rw [hbig, decide_eq_true hset]
              clear hbig hSM
              go_wp2
              refine bodyPost_ret (results_ct rfl _ _ (w.heap.size + 1) 34 #[.int .i64 0, .int .u64 0, .int .u64 0, .int .u64 0, .int .u64 0, .slice none 0 0, .int .i64 0, .int .i64 0, .slice none 0 0, .slice none 0 0, .slice none 0 0] (0, 0) _ rfl ?hg Try.underlying34 rfl (by kernel_rfl)) rfl ?_
              case hg => exact set11 hr3
              rw [HT.out.2] at hbg
              exact ⟨.inl ⟨hbg, rfl⟩, hbf _ _ _ _ _ _ _ _ _ _ _⟩
            · have hbg : bigM M = false := by rw [hbig, decide_eq_false hset]
              have HBG := Lib.hid hbg
              clear hbig hSM hbg
              go_wp2
              refine bodyPost_ret (results_ct rfl _ _ (w.heap.size + 1) 34 #[.int .i64 t.f0, .int .u64 t.f1.f0, .int .u64 t.f1.f1, .int .u64 t.f1.f2, .int .u64 t.f1.f3, .slice At t.f2.length ct, .int .i64 t.f3, .int .i64 t.f4, .slice A1 M.sets.length c1, .slice A2 S.length c2, .slice A3 ps.length c3] (0, 0) _ rfl ?hg Try.underlying34 rfl (by kernel_rfl)) rfl ?_
              case hg => exact set11 hr3
              obtain ⟨hm, hF4⟩ := HMM.out
              have hlg : w.heap.size + 1 < w2.heap.size := by omega
              have hfin := (((((((((((hm.far (p := ⟨w.heap.size + 1, 0, none⟩) hlg (.int .i64 t.f0)).far (p := ⟨w.heap.size + 1, 1, none⟩) hlg (.int .u64 t.f1.f0)).far (p := ⟨w.heap.size + 1, 2, none⟩) hlg (.int .u64 t.f1.f1)).far (p := ⟨w.heap.size + 1, 3, none⟩) hlg (.int .u64 t.f1.f2)).far (p := ⟨w.heap.size + 1, 4, none⟩) hlg (.int .u64 t.f1.f3)).far (p := ⟨w.heap.size + 1, 5, none⟩) hlg (.slice At t.f2.length ct)).far (p := ⟨w.heap.size + 1, 6, none⟩) hlg (.int .i64 t.f3)).far (p := ⟨w.heap.size + 1, 7, none⟩) hlg (.int .i64 t.f4)).far (p := ⟨w.heap.size + 1, 8, none⟩) hlg (.slice A1 M.sets.length c1)).far (p := ⟨w.heap.size + 1, 9, none⟩) hlg (.slice A2 S.length c2)).far (p := ⟨w.heap.size + 1, 10, none⟩) hlg (.slice A3 ps.length c3))
              have hff := Kd.F_now (Kd.F_far (p := ⟨w.heap.size + 1, 10, none⟩) (Kd.F_far (p := ⟨w.heap.size + 1, 9, none⟩) (Kd.F_far (p := ⟨w.heap.size + 1, 8, none⟩) (Kd.F_far (p := ⟨w.heap.size + 1, 7, none⟩) (Kd.F_far (p := ⟨w.heap.size + 1, 6, none⟩) (Kd.F_far (p := ⟨w.heap.size + 1, 5, none⟩) (Kd.F_far (p := ⟨w.heap.size + 1, 4, none⟩) (Kd.F_far (p := ⟨w.heap.size + 1, 3, none⟩) (Kd.F_far (p := ⟨w.heap.size + 1, 2, none⟩) (Kd.F_far (p := ⟨w.heap.size + 1, 1, none⟩) (Kd.F_far (p := ⟨w.heap.size + 1, 0, none⟩) hF4 (fun _ hk => hk.1) (.int .i64 t.f0)) (fun _ hk => hk.1) (.int .u64 t.f1.f0)) (fun _ hk => hk.1) (.int .u64 t.f1.f1)) (fun _ hk => hk.1) (.int .u64 t.f1.f2)) (fun _ hk => hk.1) (.int .u64 t.f1.f3)) (fun _ hk => hk.1) (.slice At t.f2.length ct)) (fun _ hk => hk.1) (.int .i64 t.f3)) (fun _ hk => hk.1) (.int .i64 t.f4)) (fun _ hk => hk.1) (.slice A1 M.sets.length c1)) (fun _ hk => hk.1) (.slice A2 S.length c2)) (fun _ hk => hk.1) (.slice A3 ps.length c3))
              have hbe := hbf (.int .i64 t.f0) (.int .u64 t.f1.f0) (.int .u64 t.f1.f1) (.int .u64 t.f1.f2) (.int .u64 t.f1.f3) (.slice At t.f2.length ct) (.int .i64 t.f3) (.int .i64 t.f4) (.slice A1 M.sets.length c1) (.slice A2 S.length c2) (.slice A3 ps.length c3)
              rw [← HT.out.1, ← HT.out.2]
              exact ⟨.inr ⟨HBG.out, g, At, ct, _, _, _, rfl, ⟨hff, hl1⟩, ps, hfin.mono (by omega)⟩, hbe⟩
end Go.Proofs.Ytlnhiogpjdhhbaa.P
