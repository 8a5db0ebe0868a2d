/- What place.Of comes to. -/
import Derived.Test.YtlnhiogpjdhhbaaV05
namespace Go.Proofs.Ytlnhiogpjdhhbaa.P
open Go.RowKit Go.Proofs.YtlnhiogpjdhhbaaW.PrintWords Go.Proofs.YtlnhiogpjdhhbaaW.PrintLast Go.Proofs.YtlnhiogpjdhhbaaW.PrintMore
set_option linter.unusedVariables false
set_option linter.unusedSimpArgs false

structure Mp.Ext (m m' : Mp) : Prop where
  sets : m.sets <+: m'.sets
  scs : m.scs <+: m'.scs
  ars : m.ars <+: m'.ars
  same : m'.sets.length + m.ars.length = m'.ars.length + m.sets.length
theorem Mp.Ext.refl (m : Mp) : Mp.Ext m m := ⟨List.prefix_refl _, List.prefix_refl _, List.prefix_refl _, by omega⟩
theorem Mp.Ext.trans {a b c : Mp} (h : Mp.Ext a b) (k : Mp.Ext b c) : Mp.Ext a c := ⟨h.sets.trans k.sets, h.scs.trans k.scs, h.ars.trans k.ars, by have := h.same; have := k.same; omega⟩
theorem mp12_ext (al : List Int) (x : S27) (m : Mp) : Mp.Ext m (mp2 x (mp1 al x m)) := by
  unfold mp2 mp1
  split <;> split <;> refine ⟨by simp, by simp, by simp, ?_⟩ <;> (try simp only [List.length_append, List.length_cons, List.length_nil]) <;> omega
mutual
theorem walkT_ext : ∀ (al : List Int) (x : S27) (m : Mp), Mp.Ext m (walkT al x m)
  | al, ⟨k, s, ps, lo, hi⟩, m => by
    rw [walkT]
    exact (mp12_ext al ⟨k, s, ps, lo, hi⟩ m).trans (walkL_ext _ ps _)
theorem walkL_ext : ∀ (al : List Int) (ps : List S27) (m : Mp), Mp.Ext m (walkL al ps m)
  | al, [], m => by rw [walkL]; exact Mp.Ext.refl m
  | al, p :: ps, m => by
    rw [walkL]
    exact (walkT_ext al p m).trans (walkL_ext al ps (walkT al p m))
end

theorem long_any (A : Option Addr) (n : Nat) (c : Nat) (w : World) : Calls Try.prog 21 #[.slice A n c] w fun e w' => e = .returned (.bool (decide ((n : Int) > 4))) ∧ Below w.heap.size w w' := by
  go_enter Try.func21, Try.ntmps21
  go_wp2
  go_ret
  exact ⟨rfl, Below.refl _ w⟩
def longP (p : Value × List Int) : Bool := decide ((p.2.length : Int) > 4)
theorem take_any (ps : List (Value × List Int)) (k : Nat) (p : Value × List Int) (h : ps[k]? = some p) : (ps.take (k + 1)).any longP = ((ps.take k).any longP || longP p) := by
  rw [List.take_add_one, h]; simp
theorem any_of (ps : List (Value × List Int)) (k : Nat) (p : Value × List Int) (h : ps[k]? = some p) (hp : longP p = true) : ps.any longP = true := List.any_eq_true.2 ⟨p, List.mem_of_getElem? h, hp⟩
set_option maxHeartbeats 2000000 in
theorem idx2_any (ps : List (Value × List Int)) (g c base : Nat) (w : World) (hr : w.ownsRow base 42 1 (.slice (some ⟨g, 0, none⟩) ps.length c) ps.length (ps.map (·.1))) (he : ∀ p ∈ ps, Ow w base 3 p.1 (ints p.2)) (hn : ps.length ≤ 2000000) :
    Calls Try.prog 28 #[.slice (some ⟨g, 0, none⟩) ps.length c, .func (.func 21) #[] #[]] w fun e w' => (∃ r : Int, e = .returned (.int .i64 r) ∧ decide (r ≥ 0) = ps.any longP) ∧ Below w.heap.size w w' := by
  go_enter Try.func28, Try.ntmps28
  have HR := Aside0.mk hr
  have HE := Aside0.mk he
  clear hr he
  go_wp2
  go_loopg [5, 8] ps.length (fun gg _ s8 wr => ∃ kk : Nat, kk ≤ ps.length ∧ ps.length - kk ≤ gg ∧ s8 = .int .i64 kk ∧ Aside0 (Below w.heap.size w wr) ∧ Aside0 ((ps.take kk).any longP = false))
  case atStart => exact ⟨0, Nat.zero_le _, by omega, rfl, ⟨Below.refl _ w⟩, ⟨by simp⟩⟩
  case round =>
    obtain ⟨kk, hkk, hg, rfl, BW, HA⟩ := hrel
    by_cases hlt : kk < ps.length
    · have hget : ps[kk]? = some ps[kk] := List.getElem?_eq_getElem hlt
      have hc0 := HR.out.cellAt kk (by omega)
      rw [List.getElem?_map, hget] at hc0
      have hc1 := cell_on BW.out hc0
      obtain ⟨B, d, hB, _, _⟩ := (HE.out ps[kk] (List.getElem_mem hlt)).sl
      generalize hp : ps[kk] = p at *
      have hcall := long_any B (ints p.2).length d wr
      replace hc1 : wr.cell? ⟨g, kk, none⟩ = some p.1 := hc1
      rw [hB] at hc1
      rw [show (decide (((ints p.2).length : Int) > 4)) = longP p by rw [ints_length]; rfl] at hcall
      have HG := Aside0.mk hget
      clear hc0 hget hp hB
      cases hq : longP p with
      | true =>
        rw [hq] at hcall
        have HQ := Aside0.mk hq
        clear hq
        go_wp2_with fail
        refine hcall.mono ?_
        rintro e w' ⟨rfl, hb'⟩
        go_wp2
        go_ret
        exact ⟨⟨_, rfl, by rw [any_of ps kk p HG.out HQ.out]; exact decide_eq_true (by omega)⟩, below_step BW.out hb'⟩
      | false =>
        rw [hq] at hcall
        have HQ := Aside0.mk hq
        clear hq
        go_wp2_with fail
        refine hcall.mono ?_
        rintro e w' ⟨rfl, hb'⟩
        go_wp2
        go_roundg (ps.length - (kk + 1))
        case measure => omega
        case rel => exact ⟨kk + 1, by omega, by omega, by go_num, ⟨below_step BW.out hb'⟩, ⟨by rw [take_any ps kk p HG.out, HA.out, HQ.out]; rfl⟩⟩
    · have hk : kk = ps.length := by omega
      have HK := Aside0.mk hk
      clear hk
      go_wp2
      go_ret
      refine ⟨⟨-1, rfl, ?_⟩, BW.out⟩
      have h := HA.out
      rw [HK.out, List.take_length] at h
      rw [h]
      rfl
theorem contains2_any (ps : List (Value × List Int)) (g c base : Nat) (w : World) (hr : w.ownsRow base 42 1 (.slice (some ⟨g, 0, none⟩) ps.length c) ps.length (ps.map (·.1))) (he : ∀ p ∈ ps, Ow w base 3 p.1 (ints p.2)) (hn : ps.length ≤ 2000000) :
    Calls Try.prog 20 #[.slice (some ⟨g, 0, none⟩) ps.length c, .func (.func 21) #[] #[]] w fun e w' => e = .returned (.bool (ps.any longP)) ∧ Below w.heap.size w w' := by
  have hi := idx2_any ps g c base w hr he hn
  clear hr he
  go_enter Try.func20, Try.ntmps20
  go_wp2_with (go_at_call 28; refine hi.mono ?_; rintro e w' ⟨⟨r, rfl, hr⟩, hb'⟩)
  go_ret
  exact ⟨rfl, hb'⟩

theorem m_cells {w : World} {g : Nat} {t : TypeId} {c0 c1 c2 c3 c4 c5 c6 c7 c8 c9 c10 : Value} (h : w.heap[g]? = some (.cells #[c0, c1, c2, c3, c4, c5, c6, c7, c8, c9, c10] t (0, 0))) :
    w.cell? ⟨g, 0, none⟩ = some c0 ∧ w.cell? ⟨g, 1, none⟩ = some c1 ∧ w.cell? ⟨g, 2, none⟩ = some c2 ∧ w.cell? ⟨g, 3, none⟩ = some c3 ∧ w.cell? ⟨g, 4, none⟩ = some c4 ∧ w.cell? ⟨g, 5, none⟩ = some c5 ∧ w.cell? ⟨g, 6, none⟩ = some c6 ∧ w.cell? ⟨g, 7, none⟩ = some c7 ∧ w.cell? ⟨g, 8, none⟩ = some c8 ∧ w.cell? ⟨g, 9, none⟩ = some c9 ∧ w.cell? ⟨g, 10, none⟩ = some c10 ∧
    w.frozen? ⟨g, 0, none⟩ = false ∧ w.frozen? ⟨g, 1, none⟩ = false ∧ w.frozen? ⟨g, 2, none⟩ = false ∧ w.frozen? ⟨g, 3, none⟩ = false ∧ w.frozen? ⟨g, 4, none⟩ = false ∧ w.frozen? ⟨g, 5, none⟩ = false ∧ w.frozen? ⟨g, 6, none⟩ = false ∧ w.frozen? ⟨g, 7, none⟩ = false ∧ w.frozen? ⟨g, 8, none⟩ = false ∧ w.frozen? ⟨g, 9, none⟩ = false ∧ w.frozen? ⟨g, 10, none⟩ = false :=
  ⟨(blk_cell h 0).trans rfl, (blk_cell h 1).trans rfl, (blk_cell h 2).trans rfl, (blk_cell h 3).trans rfl, (blk_cell h 4).trans rfl, (blk_cell h 5).trans rfl, (blk_cell h 6).trans rfl, (blk_cell h 7).trans rfl, (blk_cell h 8).trans rfl, (blk_cell h 9).trans rfl, (blk_cell h 10).trans rfl,
    blk_frozen h 0, blk_frozen h 1, blk_frozen h 2, blk_frozen h 3, blk_frozen h 4, blk_frozen h 5, blk_frozen h 6, blk_frozen h 7, blk_frozen h 8, blk_frozen h 9, blk_frozen h 10⟩
theorem set11 {w : World} {g : Nat} {t : TypeId} {c0 c1 c2 c3 c4 c5 c6 c7 c8 c9 c10 v0 v1 v2 v3 v4 v5 v6 v7 v8 v9 v10 : Value} (h : w.heap[g]? = some (.cells #[c0, c1, c2, c3, c4, c5, c6, c7, c8, c9, c10] t (0, 0))) :
    (((((((((((w.setCell ⟨g, 0, none⟩ v0).setCell ⟨g, 1, none⟩ v1).setCell ⟨g, 2, none⟩ v2).setCell ⟨g, 3, none⟩ v3).setCell ⟨g, 4, none⟩ v4).setCell ⟨g, 5, none⟩ v5).setCell ⟨g, 6, none⟩ v6).setCell ⟨g, 7, none⟩ v7).setCell ⟨g, 8, none⟩ v8).setCell ⟨g, 9, none⟩ v9).setCell ⟨g, 10, none⟩ v10).heap[g]? = some (.cells #[v0, v1, v2, v3, v4, v5, v6, v7, v8, v9, v10] t (0, 0)) := by
  have h0 : (w.setCell ⟨g, 0, none⟩ v0).heap[g]? = some (.cells #[v0, c1, c2, c3, c4, c5, c6, c7, c8, c9, c10] t (0, 0)) := blk_put h 0 v0 rfl
  have h1 : ((w.setCell ⟨g, 0, none⟩ v0).setCell ⟨g, 1, none⟩ v1).heap[g]? = some (.cells #[v0, v1, c2, c3, c4, c5, c6, c7, c8, c9, c10] t (0, 0)) := blk_put h0 1 v1 rfl
  have h2 : (((w.setCell ⟨g, 0, none⟩ v0).setCell ⟨g, 1, none⟩ v1).setCell ⟨g, 2, none⟩ v2).heap[g]? = some (.cells #[v0, v1, v2, c3, c4, c5, c6, c7, c8, c9, c10] t (0, 0)) := blk_put h1 2 v2 rfl
  have h3 : ((((w.setCell ⟨g, 0, none⟩ v0).setCell ⟨g, 1, none⟩ v1).setCell ⟨g, 2, none⟩ v2).setCell ⟨g, 3, none⟩ v3).heap[g]? = some (.cells #[v0, v1, v2, v3, c4, c5, c6, c7, c8, c9, c10] t (0, 0)) := blk_put h2 3 v3 rfl
  have h4 : (((((w.setCell ⟨g, 0, none⟩ v0).setCell ⟨g, 1, none⟩ v1).setCell ⟨g, 2, none⟩ v2).setCell ⟨g, 3, none⟩ v3).setCell ⟨g, 4, none⟩ v4).heap[g]? = some (.cells #[v0, v1, v2, v3, v4, c5, c6, c7, c8, c9, c10] t (0, 0)) := blk_put h3 4 v4 rfl
  have h5 : ((((((w.setCell ⟨g, 0, none⟩ v0).setCell ⟨g, 1, none⟩ v1).setCell ⟨g, 2, none⟩ v2).setCell ⟨g, 3, none⟩ v3).setCell ⟨g, 4, none⟩ v4).setCell ⟨g, 5, none⟩ v5).heap[g]? = some (.cells #[v0, v1, v2, v3, v4, v5, c6, c7, c8, c9, c10] t (0, 0)) := blk_put h4 5 v5 rfl
  have h6 : (((((((w.setCell ⟨g, 0, none⟩ v0).setCell ⟨g, 1, none⟩ v1).setCell ⟨g, 2, none⟩ v2).setCell ⟨g, 3, none⟩ v3).setCell ⟨g, 4, none⟩ v4).setCell ⟨g, 5, none⟩ v5).setCell ⟨g, 6, none⟩ v6).heap[g]? = some (.cells #[v0, v1, v2, v3, v4, v5, v6, c7, c8, c9, c10] t (0, 0)) := blk_put h5 6 v6 rfl
  have h7 : ((((((((w.setCell ⟨g, 0, none⟩ v0).setCell ⟨g, 1, none⟩ v1).setCell ⟨g, 2, none⟩ v2).setCell ⟨g, 3, none⟩ v3).setCell ⟨g, 4, none⟩ v4).setCell ⟨g, 5, none⟩ v5).setCell ⟨g, 6, none⟩ v6).setCell ⟨g, 7, none⟩ v7).heap[g]? = some (.cells #[v0, v1, v2, v3, v4, v5, v6, v7, c8, c9, c10] t (0, 0)) := blk_put h6 7 v7 rfl
  have h8 : (((((((((w.setCell ⟨g, 0, none⟩ v0).setCell ⟨g, 1, none⟩ v1).setCell ⟨g, 2, none⟩ v2).setCell ⟨g, 3, none⟩ v3).setCell ⟨g, 4, none⟩ v4).setCell ⟨g, 5, none⟩ v5).setCell ⟨g, 6, none⟩ v6).setCell ⟨g, 7, none⟩ v7).setCell ⟨g, 8, none⟩ v8).heap[g]? = some (.cells #[v0, v1, v2, v3, v4, v5, v6, v7, v8, c9, c10] t (0, 0)) := blk_put h7 8 v8 rfl
  have h9 : ((((((((((w.setCell ⟨g, 0, none⟩ v0).setCell ⟨g, 1, none⟩ v1).setCell ⟨g, 2, none⟩ v2).setCell ⟨g, 3, none⟩ v3).setCell ⟨g, 4, none⟩ v4).setCell ⟨g, 5, none⟩ v5).setCell ⟨g, 6, none⟩ v6).setCell ⟨g, 7, none⟩ v7).setCell ⟨g, 8, none⟩ v8).setCell ⟨g, 9, none⟩ v9).heap[g]? = some (.cells #[v0, v1, v2, v3, v4, v5, v6, v7, v8, v9, c10] t (0, 0)) := blk_put h8 9 v9 rfl
  have h10 : (((((((((((w.setCell ⟨g, 0, none⟩ v0).setCell ⟨g, 1, none⟩ v1).setCell ⟨g, 2, none⟩ v2).setCell ⟨g, 3, none⟩ v3).setCell ⟨g, 4, none⟩ v4).setCell ⟨g, 5, none⟩ v5).setCell ⟨g, 6, none⟩ v6).setCell ⟨g, 7, none⟩ v7).setCell ⟨g, 8, none⟩ v8).setCell ⟨g, 9, none⟩ v9).setCell ⟨g, 10, none⟩ v10).heap[g]? = some (.cells #[v0, v1, v2, v3, v4, v5, v6, v7, v8, v9, v10] t (0, 0)) := blk_put h9 10 v10 rfl
  exact h10
theorem below11 {B : Nat} {a w : World} {g : Nat} {v0 v1 v2 v3 v4 v5 v6 v7 v8 v9 v10 : Value} (h : Below B a w) (hb : B ≤ g) :
    Below B a (((((((((((w.setCell ⟨g, 0, none⟩ v0).setCell ⟨g, 1, none⟩ v1).setCell ⟨g, 2, none⟩ v2).setCell ⟨g, 3, none⟩ v3).setCell ⟨g, 4, none⟩ v4).setCell ⟨g, 5, none⟩ v5).setCell ⟨g, 6, none⟩ v6).setCell ⟨g, 7, none⟩ v7).setCell ⟨g, 8, none⟩ v8).setCell ⟨g, 9, none⟩ v9).setCell ⟨g, 10, none⟩ v10) :=
  (((((((((((h.setCell (by exact hb) _).setCell (by exact hb) _).setCell (by exact hb) _).setCell (by exact hb) _).setCell (by exact hb) _).setCell (by exact hb) _).setCell (by exact hb) _).setCell (by exact hb) _).setCell (by exact hb) _).setCell (by exact hb) _).setCell (by exact hb) _)
def zS : S24 := ⟨0, 0, 0, 0⟩
def m0 : Mp := ⟨[zS], [], [[]]⟩
def ofM (x : S27) : Mp := walkT [] (simpleT x) m0
def bigM (m : Mp) : Bool := decide ((m.sets.length : Int) > 41) || m.ars.any fun l => decide ((l.length : Int) > 4)
def zMapV : Value := .agg #[.int .i64 0, .int .u64 0, .int .u64 0, .int .u64 0, .int .u64 0, .slice none 0 0, .int .i64 0, .int .i64 0, .slice none 0 0, .slice none 0 0, .slice none 0 0]
def zMapC : Array Value := #[.int .i64 0, .int .u64 0, .int .u64 0, .int .u64 0, .int .u64 0, .slice none 0 0, .int .i64 0, .int .i64 0, .slice none 0 0, .slice none 0 0, .slice none 0 0]
theorem tr_simple_bad (x : S27) (A : Option Addr) (c : Nat) (w : World) (hf : formedT x = false) (h : Tr w x A c) : Calls Try.prog 10 #[ndV x A c] w fun e w' =>
    ∃ A' c', e = .returned (.tuple #[ndV ⟨0, zS, [], 0, 0⟩ A' c', .int .i64 1]) ∧ Below w.heap.size w w' := by
  have hk := Simple_bad x hf 0
  refine (core_Simple.calls 0 _ _ _ _ _ (fun k => k < w.heap.size) A c _ _ _ _ _ _ _ _ _ _ _ _ w (Kd.V_mk h.cap (Kd.C_F k27_heap h.row)) hk).mono ?_
  rintro e w' ⟨v5, rfl, ⟨A', c', rfl, hl, hF⟩, hb⟩
  exact ⟨A', c', rfl, hb⟩
set_option maxHeartbeats 2000000 in
theorem of_arg (x : S27) (A : Option Addr) (c : Nat) (w : World) (hf : formedT x = false) (h : Tr w x A c) : Calls Try.prog 9 #[ndV x A c] w fun e w' =>
    e = .returned (.tuple #[zMapV, .int .i64 1]) ∧ Below w.heap.size w w' := by
  have hs := fun w' (h : Tr w' x A c) => tr_simple_bad x A c w' hf h
  go_enter Try.func9, Try.ntmps9
  unfold ndV at hs ⊢
  go_wp2_with fail
  refine (hs _ ((h.alloc _).alloc _)).mono ?_
  rintro e w1 ⟨A', c', rfl, hb⟩
  have hr0 : ((w.alloc (.cells (nC8 x A c).toArray 27)).alloc (.cells zMapC 34)).heap[w.heap.size + 1]? = some (.cells zMapC 34) := by
    have := heap_alloc_new (w.alloc (.cells (nC8 x A c).toArray 27)) (.cells zMapC 34)
    rwa [show (w.alloc (.cells (nC8 x A c).toArray 27)).heap.size = w.heap.size + 1 by simp] at this
  have hb0 : Below w.heap.size w w1 := (((Below.refl w.heap.size w).alloc (Nat.le_refl _) (.cells (nC8 x A c).toArray 27)).alloc (by simp) (.cells zMapC 34)).trans (hb.mono (by simp; omega))
  have hr1 := blk_below hr0 hb
  have hs1 := hb0.size
  have hlt := blk_lt hr1
  unfold zMapC at hr1
  obtain ⟨k0, k1, k2, k3, k4, k5, k6, k7, k8, k9, k10, f0, f1, f2, f3, f4, f5, f6, f7, f8, f9, f10⟩ := m_cells hr1
  clear hb hr0 hs h
  go_wp2
  refine bodyPost_ret (results_ct rfl _ _ (w.heap.size + 1) 34 #[.int .i64 0, .int .u64 0, .int .u64 0, .int .u64 0, .int .u64 0, .slice none 0 0, .int .i64 0, .int .i64 0, .slice none 0 0, .slice none 0 0, .slice none 0 0] (0, 0) _ rfl ?hg Try.underlying34 rfl (by kernel_rfl)) rfl ?_
  case hg => exact blk_alloc (set11 hr1) _
  have hbf := fun v0 v1 v2 v3 v4 v5 v6 v7 v8 v9 v10 => below11 (v0 := v0) (v1 := v1) (v2 := v2) (v3 := v3) (v4 := v4) (v5 := v5) (v6 := v6) (v7 := v7) (v8 := v8) (v9 := v9) (v10 := v10) hb0 (Nat.le_succ w.heap.size)
  exact ⟨rfl, (hbf _ _ _ _ _ _ _ _ _ _ _).alloc (hbf _ _ _ _ _ _ _ _ _ _ _).size _⟩

theorem tr_simpleF (p : Nat → Prop) (x : S27) (A : Option Addr) (c : Nat) (w : World) (hf : formedT x = true) (hc : cntT x ≤ 1000000) (hl : x.f2.length ≤ c) (h : Kd.F k27 w p A x.f2.length x.f2) : Calls Try.prog 10 #[ndV x A c] w fun e w' =>
    ∃ A' c', e = .returned (.tuple #[ndV (simpleT x) A' c', .int .i64 0]) ∧ (Kd.F k27 w' (fun k => p k ∨ w.heap.size ≤ k) A' (simpleT x).f2.length (simpleT x).f2 ∧ (simpleT x).f2.length ≤ c') ∧ Below w.heap.size w w' := by
  obtain ⟨k, hk⟩ := (Simple_ev x hc hf).rounds
  refine (core_Simple.calls k _ _ _ _ _ p A c _ _ _ _ _ _ _ _ _ _ _ _ w (Kd.V_mk hl h) hk).mono ?_
  rintro e w' ⟨v5, rfl, ⟨A', c', rfl, hl, hF⟩, hb⟩
  exact ⟨A', c', rfl, ⟨hF, hl⟩, hb⟩
namespace MapIs
variable {w w' : World} {g base : Nat} {x : S27} {A : Option Addr} {c : Nat} {v1 v2 v3 : Value} {ps : List (Value × List Int)} {m : Mp}
theorem far (h : MapIs w g base x A c v1 v2 v3 ps m) {p : Addr} (hp : p.block < base) (u : Value) : MapIs (w.setCell p u) g base x A c v1 v2 v3 ps m := by
  have keep : ∀ {e : TypeId} {size n : Nat} {v : Value} {xs : List Value}, w.ownsRow base e size v n xs → (w.setCell p u).ownsRow base e size v n xs := fun hrow => row_keep hrow fun k hk hlt => Below.heap_setCell w p u k (fun e => by
    obtain ⟨h1, _⟩ := row_blk hrow k hk
    omega)
  exact ⟨blk_far h.blk (by have := h.le; omega) u, keep h.sets, keep h.scs, keep h.ars, h.lists, fun p hp => keep (h.each p hp), h.le⟩
theorem mono (h : MapIs w g base x A c v1 v2 v3 ps m) {base' : Nat} (hb : base' ≤ base) : MapIs w g base' x A c v1 v2 v3 ps m :=
  ⟨h.blk, h.sets.mono hb, h.scs.mono hb, h.ars.mono hb, h.lists, fun p hp => World.ownsRow.mono (h.each p hp) hb, by have := h.le; omega⟩
end MapIs
theorem ofM_ars (x : S27) : 0 < (ofM x).ars.length := by
  have h := (walkT_ext [] (simpleT x) m0).ars.length_le
  exact Nat.lt_of_lt_of_le (by simp [m0]) h
theorem longP_any (ps : List (Value × List Int)) (l : List (List Int)) (h : ps.map (·.2) = l) : ps.any longP = l.any fun l => decide ((l.length : Int) > 4) := by
  subst h
  rw [List.any_map]
  rfl
theorem mkC (W : World) : (Instr.makeSlice 30 (.int .i64 1) (.int .i64 1)).run Try.prog W = .ok (.slice (some ⟨W.heap.size, 0, none⟩) 1 1) (W.alloc (.cells #[.int .u64 0, .int .u64 0, .int .u64 0, .int .u64 0] 24)) := by kernel_rfl
theorem mkA (W : World) : (Instr.makeSlice 32 (.int .i64 1) (.int .i64 1)).run Try.prog W = .ok (.slice (some ⟨W.heap.size, 0, none⟩) 1 1) (W.alloc (.cells #[.slice none 0 0] 42)) := by kernel_rfl
theorem mapIs_new1 (w2 : World) (n : Nat) (hn : w2.heap.size = n) (t : S27) (At : Option Addr) (ct : Nat) :
    MapIs (((w2.alloc (.cells #[.int .u64 0, .int .u64 0, .int .u64 0, .int .u64 0] 24)).alloc (.cells #[.slice none 0 0] 42)).alloc (.cells (nC8 t At ct ++ [Value.slice (some ⟨n, 0, none⟩) 1 1, Value.slice none 0 0, Value.slice (some ⟨n + 1, 0, none⟩) 1 1]).toArray 34)).drew (n + 1 + 1) n t At ct (.slice (some ⟨n, 0, none⟩) 1 1) (.slice none 0 0) (.slice (some ⟨n + 1, 0, none⟩) 1 1) [(.slice none 0 0, [])] m0 ∧
      Below n w2 (((w2.alloc (.cells #[.int .u64 0, .int .u64 0, .int .u64 0, .int .u64 0] 24)).alloc (.cells #[.slice none 0 0] 42)).alloc (.cells (nC8 t At ct ++ [Value.slice (some ⟨n, 0, none⟩) 1 1, Value.slice none 0 0, Value.slice (some ⟨n + 1, 0, none⟩) 1 1]).toArray 34)).drew := by
  subst hn
  have e1 : (w2.alloc (.cells #[.int .u64 0, .int .u64 0, .int .u64 0, .int .u64 0] 24)).heap.size = w2.heap.size + 1 := by simp
  have e2 : ((w2.alloc (.cells #[.int .u64 0, .int .u64 0, .int .u64 0, .int .u64 0] 24)).alloc (.cells #[.slice none 0 0] 42)).heap.size = w2.heap.size + 1 + 1 := by simp
  have r1 := fun (xs : Array Value) (e : TypeId) (k size : Nat) (hs : xs.size = k * size) (hk : k ≤ maxLen) => World.ownsRow_lit (e := e) (size := size) w2 xs k (Nat.le_refl w2.heap.size) hk hs
  have r2 := fun (xs : Array Value) (e : TypeId) (k size : Nat) (hs : xs.size = k * size) (hk : k ≤ maxLen) => World.ownsRow_lit (base := w2.heap.size) (e := e) (size := size) (w2.alloc (.cells #[.int .u64 0, .int .u64 0, .int .u64 0, .int .u64 0] 24)) xs k (by rw [e1]; omega) hk hs
  rw [e1] at r2
  refine ⟨⟨?_, ?_, World.ownsRow_nil _ _ _ _, ?_, rfl, ?_, by omega⟩, ?_⟩
  · have h := heap_alloc_new ((w2.alloc (.cells #[.int .u64 0, .int .u64 0, .int .u64 0, .int .u64 0] 24)).alloc (.cells #[.slice none 0 0] 42)) (.cells (nC8 t At ct ++ [Value.slice (some ⟨w2.heap.size, 0, none⟩) 1 1, Value.slice none 0 0, Value.slice (some ⟨w2.heap.size + 1, 0, none⟩) 1 1]).toArray 34)
    rw [e2] at h
    exact h
  · exact World.ownsRow.drew (((r1 #[.int .u64 0, .int .u64 0, .int .u64 0, .int .u64 0] 24 1 4 rfl (by decide)).alloc _).alloc _)
  · exact World.ownsRow.drew ((r2 #[.slice none 0 0] 42 1 1 rfl (by decide)).alloc _)
  · intro p hp
    rw [List.mem_singleton] at hp
    subst hp
    exact World.ownsRow_nil _ _ _ _
  · exact ((((Below.refl w2.heap.size w2).alloc (Nat.le_refl _) _).alloc (by rw [e1]; omega) _).alloc (by rw [e2]; omega) _).drew
theorem mapIs_new2 (w2 : World) (n : Nat) (hn : w2.heap.size = n) (t : S27) (At : Option Addr) (ct : Nat) :
    MapIs (((w2.alloc (.cells #[.slice none 0 0] 42)).alloc (.cells #[.int .u64 0, .int .u64 0, .int .u64 0, .int .u64 0] 24)).alloc (.cells (nC8 t At ct ++ [Value.slice (some ⟨n + 1, 0, none⟩) 1 1, Value.slice none 0 0, Value.slice (some ⟨n, 0, none⟩) 1 1]).toArray 34)).drew (n + 1 + 1) n t At ct (.slice (some ⟨n + 1, 0, none⟩) 1 1) (.slice none 0 0) (.slice (some ⟨n, 0, none⟩) 1 1) [(.slice none 0 0, [])] m0 ∧
      Below n w2 (((w2.alloc (.cells #[.slice none 0 0] 42)).alloc (.cells #[.int .u64 0, .int .u64 0, .int .u64 0, .int .u64 0] 24)).alloc (.cells (nC8 t At ct ++ [Value.slice (some ⟨n + 1, 0, none⟩) 1 1, Value.slice none 0 0, Value.slice (some ⟨n, 0, none⟩) 1 1]).toArray 34)).drew := by
  subst hn
  have e1 : (w2.alloc (.cells #[.slice none 0 0] 42)).heap.size = w2.heap.size + 1 := by simp
  have e2 : ((w2.alloc (.cells #[.slice none 0 0] 42)).alloc (.cells #[.int .u64 0, .int .u64 0, .int .u64 0, .int .u64 0] 24)).heap.size = w2.heap.size + 1 + 1 := by simp
  have r1 := fun (xs : Array Value) (e : TypeId) (k size : Nat) (hs : xs.size = k * size) (hk : k ≤ maxLen) => World.ownsRow_lit (e := e) (size := size) w2 xs k (Nat.le_refl w2.heap.size) hk hs
  have r2 := fun (xs : Array Value) (e : TypeId) (k size : Nat) (hs : xs.size = k * size) (hk : k ≤ maxLen) => World.ownsRow_lit (base := w2.heap.size) (e := e) (size := size) (w2.alloc (.cells #[.slice none 0 0] 42)) xs k (by rw [e1]; omega) hk hs
  rw [e1] at r2
  refine ⟨⟨?_, ?_, World.ownsRow_nil _ _ _ _, ?_, rfl, ?_, by omega⟩, ?_⟩
  · have h := heap_alloc_new ((w2.alloc (.cells #[.slice none 0 0] 42)).alloc (.cells #[.int .u64 0, .int .u64 0, .int .u64 0, .int .u64 0] 24)) (.cells (nC8 t At ct ++ [Value.slice (some ⟨w2.heap.size + 1, 0, none⟩) 1 1, Value.slice none 0 0, Value.slice (some ⟨w2.heap.size, 0, none⟩) 1 1]).toArray 34)
    rw [e2] at h
    exact h
  · exact World.ownsRow.drew ((r2 #[.int .u64 0, .int .u64 0, .int .u64 0, .int .u64 0] 24 1 4 rfl (by decide)).alloc _)
  · exact World.ownsRow.drew (((r1 #[.slice none 0 0] 42 1 1 rfl (by decide)).alloc _).alloc _)
  · intro p hp
    rw [List.mem_singleton] at hp
    subst hp
    exact World.ownsRow_nil _ _ _ _
  · exact ((((Below.refl w2.heap.size w2).alloc (Nat.le_refl _) _).alloc (by rw [e1]; omega) _).alloc (by rw [e2]; omega) _).drew
theorem size_alloc2 (w : World) (o o' : Obj) : ((w.alloc o).alloc o').heap.size = w.heap.size + 1 + 1 := by simp
set_option maxHeartbeats 4000000 in
theorem of_ok (x : S27) (A : Option Addr) (c : Nat) (w : World) (hf : formedT x = true) (hc : cntT x ≤ 10000) (h : Tr w x A c) : Calls Try.prog 9 #[ndV x A c] w fun e w' =>
    (bigM (ofM x) = true ∧ e = .returned (.tuple #[zMapV, .int .i64 3]) ∨ bigM (ofM x) = false ∧ ∃ g At ct v1 v2 v3 ps, e = .returned (.tuple #[.agg (nC8 (simpleT x) At ct ++ [v1, v2, v3]).toArray, .int .i64 0]) ∧ Tr w' (simpleT x) At ct ∧ MapIs w' g w.heap.size (simpleT x) At ct v1 v2 v3 ps (ofM x)) ∧ Below w.heap.size w w' := by
  have hF0 := Kd.C_F k27_heap h.row
  have hs := fun w' (h : Kd.F k27 w' (fun k => k < w.heap.size) A x.f2.length x.f2) (hl : x.f2.length ≤ c) => tr_simpleF (fun k => k < w.heap.size) x A c w' hf (by omega) hl h
  have hcs : cntT (simpleT x) ≤ 10000 := by have := (simpleT_ok _ x (Nat.lt_succ_self _) (ok_formed hf)).2; omega
  have hom : walkT [] (simpleT x) m0 = ofM x := rfl
  have hn0 := ofM_ars x
  go_enter Try.func9, Try.ntmps9
  unfold ndV at hs ⊢
  go_wp2_with fail
  refine (hs _ (Kd.F_alloc (Kd.F_alloc hF0 _) _) h.cap).mono ?_
  rintro e w1 ⟨At, ct, rfl, ⟨hF1, hl1⟩, hb⟩
  have htr : Tr w1 (simpleT x) At ct := ⟨Kd.F_now hF1, hl1⟩
  replace hF1 := Kd.F_mono (ok' := fun k => k ≠ w.heap.size + 1) hF1 (by intro k hk; simp only [size_alloc2] at hk; omega)
  have hr0 : ((w.alloc (.cells (nC8 x A c).toArray 27)).alloc (.cells zMapC 34)).heap[w.heap.size + 1]? = some (.cells zMapC 34) := by
    have := heap_alloc_new (w.alloc (.cells (nC8 x A c).toArray 27)) (.cells zMapC 34)
    rwa [show (w.alloc (.cells (nC8 x A c).toArray 27)).heap.size = w.heap.size + 1 by simp] at this
  have hb0 : Below w.heap.size w w1 := (((Below.refl w.heap.size w).alloc (Nat.le_refl _) (.cells (nC8 x A c).toArray 27)).alloc (by simp) (.cells zMapC 34)).trans (hb.mono (by simp; omega))
  have hr1 := blk_below hr0 hb
  have hs1 := hb0.size
  have hlt := blk_lt hr1
  clear hb hr0 hs h hF0
  obtain ⟨t, ht⟩ : ∃ t, t = simpleT x := ⟨_, rfl⟩
  obtain ⟨M, hM⟩ : ∃ M, M = ofM x := ⟨_, rfl⟩
  rw [← hM] at hn0 hom
  rw [← ht] at hcs hom hF1 hl1 htr ⊢
  have HT := Lib.hid (And.intro ht hM)
  clear ht hM
  have hmC := mkC
  have hmA := mkA
  go_upto_region 4 with fail
  have hba := (Below.refl w1.heap.size w1).alloc (Nat.le_refl _) (.cells (nC8 t At ct).toArray 27)
  have hnx : (w1.alloc (.cells (nC8 t At ct).toArray 27)).heap[w1.heap.size]? = some (.cells (nC8 t At ct).toArray 27) := heap_alloc_new w1 _
  have hrx := blk_below hr1 hba
  have hbx := hb0.alloc hs1 (.cells (nC8 t At ct).toArray 27)
  have htx := htr.alloc (.cells (nC8 t At ct).toArray 27)
  have hszx : (w1.alloc (.cells (nC8 t At ct).toArray 27)).heap.size = w1.heap.size + 1 := by simp
  have hW2 : ∃ w2, w2 = w1.alloc (.cells (nC8 t At ct).toArray 27) := ⟨_, rfl⟩
  obtain ⟨w2, hw2⟩ := hW2
  rw [← hw2] at hnx hrx hbx htx hszx
  have HW2 := Lib.hid hw2
  clear hw2 hba
  go_cut [6] (fun s6 wx => ∃ g sa sb, s6 = .pointer (some ⟨g, 0, none⟩) ∧ MapIs wx g w2.heap.size t At ct (.slice (some ⟨sa, 0, none⟩) 1 1) (.slice none 0 0) (.slice (some ⟨sb, 0, none⟩) 1 1) [(.slice none 0 0, [])] m0 ∧ Below w2.heap.size w2 wx)
  case first =>
    go_region
    all_goals
      have hw2 := HW2.out
      unfold nC8 at hw2
      rw [← hw2]
      go_wp2_with fail
      go_meet
    · obtain ⟨q1, q2⟩ := mapIs_new1 w2 _ hszx t At ct
      rw [hszx]
      exact ⟨w1.heap.size + 1 + 1 + 1, w1.heap.size + 1, w1.heap.size + 1 + 1, rfl, q1, q2⟩
    · obtain ⟨q1, q2⟩ := mapIs_new2 w2 _ hszx t At ct
      rw [hszx]
      exact ⟨w1.heap.size + 1 + 1 + 1, w1.heap.size + 1 + 1, w1.heap.size + 1, rfl, q1, q2⟩
  case rest =>
    obtain ⟨g, sa, sb, rfl, hm, hbm⟩ := hcut
    have hnz := blk_below hnx hbm
    have hwi : Wi w2 wc g t At ct _ _ _ _ m0 (cntT t) := ⟨hbm, hm, by simp only [m0, List.length_singleton]; omega, by simp only [m0, List.length_nil]; omega, by simp only [m0, List.length_singleton]; omega⟩
    have hcall := walk_any _ t At ct [] (.slice none 0 0) _ _ _ _ m0 wc w2 g t At ct (Nat.lt_succ_self _) htx (World.ownsRow_nil _ _ _ _) (by simp only [List.length_nil]; omega) hwi
    have hbz := hbx.trans (hbm.mono hbx.size)
    have hrz := blk_below hrx hbm
    have hltz := blk_lt hrx
    have hsz := hbm.size
    have hsw := hbx.size
    unfold ndV at hcall
    unfold nC8 at hnz
    obtain ⟨k0, k1, k2, k3, k4, k5, k6, k7, fk0, fk1, fk2, fk3, fk4, fk5, fk6, fk7⟩ := n_cells hnz
    have hF2 := Kd.F_alloc hF1 (.cells (nC8 t At ct).toArray 27)
    rw [← HW2.out] at hF2
    clear hwi hm hrx hnx hr1 hb0 hs1 hlt htr hbx HW2
    go_wp2_with fail
    refine hcall.mono ?_
    rintro e w3 ⟨rfl, hk3, v1, v2, v3, ps, hm3⟩
    rw [hom] at hm3
    have hps : ps.length = M.ars.length := by
      have := congrArg List.length hm3.lists
      simpa using this
    have hle := (walkT_le [] t m0).ars
    rw [hom] at hle
    have hle2 : ps.length ≤ 20000 := by simp only [m0, List.length_singleton] at hle; omega
    have hany := longP_any ps M.ars hm3.lists
    have hbig : bigM M = (decide ((M.sets.length : Int) > 41) || ps.any longP) := by rw [hany]; rfl
    have hb23 := hbm.trans (hk3.below hsz)
    have hF3 := Kd.F_below hF2 hb23
    clear hF2 hF1 htx
    have hr3 := (hk3.block _ (by omega) (.inl (by omega))).trans hrz
    have hb3 := hbz.trans ((hk3.below hsz).mono hsw)
    have hs3 := hb3.size
    have hlt3 := blk_lt hr3
    have hg2 := hm3.le
    obtain ⟨A1, c1, rfl⟩ := row_form hm3.sets
    obtain ⟨A4, c4, rfl⟩ := row_form hm3.scs
    have har := hm3.ars
    obtain ⟨n3, hn3⟩ : ∃ n3, ps.length = n3 + 1 := ⟨ps.length - 1, by omega⟩
    rw [hn3] at har
    obtain ⟨g3, c3, rfl⟩ := ownsRow_succ har
    rw [← hn3] at hm3
    clear har
    have hcon := contains2_any ps g3 c3 _ w3 hm3.ars hm3.each (by omega)
    obtain ⟨q0, q1, q2, q3, q4, q5, q6, q7, q8, q9, q10, gq0, gq1, gq2, gq3, gq4, gq5, gq6, gq7, gq8, gq9, gq10⟩ := m_cells hm3.blk
    clear k0 k1 k2 k3 k4 k5 k6 k7 fk0 fk1 fk2 fk3 fk4 fk5 fk6 fk7 hk3 hbz hrz hsz hnz hb23 hcall
    have HM := Lib.hid hm3
    have HN := Lib.hid hn3
    have HL := Lib.hid hle
    have HP := Lib.hid hps
    clear hm3 hn3 hle hps hany hom hcs
    unfold zMapC at hr3
    obtain ⟨k0, k1, k2, k3, k4, k5, k6, k7, k8, k9, k10, f0, f1, f2, f3, f4, f5, f6, f7, f8, f9, f10⟩ := m_cells hr3
    have hbf := fun v0 v1 v2 v3 v4 v5 v6 v7 v8 v9 v10 => below11 (v0 := v0) (v1 := v1) (v2 := v2) (v3 := v3) (v4 := v4) (v5 := v5) (v6 := v6) (v7 := v7) (v8 := v8) (v9 := v9) (v10 := v10) hb3 (Nat.le_succ w.heap.size)
    by_cases hset : (M.sets.length : Int) > 41
    · have hbg : bigM M = true := by rw [hbig, decide_eq_true hset]; rfl
      clear hcon hbig
      go_wp2
      refine bodyPost_ret (results_ct rfl _ _ (w.heap.size + 1) 34 #[.int .i64 0, .int .u64 0, .int .u64 0, .int .u64 0, .int .u64 0, .slice none 0 0, .int .i64 0, .int .i64 0, .slice none 0 0, .slice none 0 0, .slice none 0 0] (0, 0) _ rfl ?hg Try.underlying34 rfl (by kernel_rfl)) rfl ?_
      case hg => exact set11 hr3
      rw [HT.out.2] at hbg
      exact ⟨.inl ⟨hbg, rfl⟩, hbf _ _ _ _ _ _ _ _ _ _ _⟩
    · cases han : ps.any longP with
      | true =>
        rw [han] at hcon
        have hbg : bigM M = true := by rw [hbig, han, Bool.or_true]
        rw [HT.out.2] at hbg
        have HBG := Lib.hid hbg
        have hse : decide ((M.sets.length : Int) > 41) = false := decide_eq_false hset
        clear hbig hset hbg han
        go_wp2_with fail
        refine hcon.mono ?_
        rintro e w4 ⟨rfl, hb4⟩
        have hm4 := HM.out.below hb4
        have hr4 := blk_below hr3 hb4
        have hb4' := hb3.trans (hb4.mono hs3)
        have hF4 := Kd.F_below hF3 hb4
        have hs4 := hb4'.size
        clear q0 q1 q2 q3 q4 q5 q6 q7 q8 q9 q10 gq0 gq1 gq2 gq3 gq4 gq5 gq6 gq7 gq8 gq9 gq10 k0 k1 k2 k3 k4 k5 k6 k7 k8 k9 k10 f0 f1 f2 f3 f4 f5 f6 f7 f8 f9 f10 hbf hcon hr3 hb3 hF3 hb4 HM
        obtain ⟨q0, q1, q2, q3, q4, q5, q6, q7, q8, q9, q10, gq0, gq1, gq2, gq3, gq4, gq5, gq6, gq7, gq8, gq9, gq10⟩ := m_cells hm4.blk
        obtain ⟨k0, k1, k2, k3, k4, k5, k6, k7, k8, k9, k10, f0, f1, f2, f3, f4, f5, f6, f7, f8, f9, f10⟩ := m_cells hr4
        have hbf := fun v0 v1 v2 v3 v4 v5 v6 v7 v8 v9 v10 => below11 (v0 := v0) (v1 := v1) (v2 := v2) (v3 := v3) (v4 := v4) (v5 := v5) (v6 := v6) (v7 := v7) (v8 := v8) (v9 := v9) (v10 := v10) hb4' (Nat.le_succ w.heap.size)
        have HM := Lib.hid hm4
        clear hm4
        go_wp2
        refine bodyPost_ret (results_ct rfl _ _ (w.heap.size + 1) 34 #[.int .i64 0, .int .u64 0, .int .u64 0, .int .u64 0, .int .u64 0, .slice none 0 0, .int .i64 0, .int .i64 0, .slice none 0 0, .slice none 0 0, .slice none 0 0] (0, 0) _ rfl ?hg Try.underlying34 rfl (by kernel_rfl)) rfl ?_
        case hg => exact set11 hr4
        exact ⟨.inl ⟨HBG.out, rfl⟩, hbf _ _ _ _ _ _ _ _ _ _ _⟩
      | false =>
        rw [han] at hcon
        have hse : decide ((M.sets.length : Int) > 41) = false := decide_eq_false hset
        have hbg : bigM M = false := by rw [hbig, han, hse]; rfl
        rw [HT.out.2] at hbg
        have HBG := Lib.hid hbg
        clear hbig hset hbg han
        go_wp2_with fail
        refine hcon.mono ?_
        rintro e w4 ⟨rfl, hb4⟩
        have hm4 := HM.out.below hb4
        have hr4 := blk_below hr3 hb4
        have hb4' := hb3.trans (hb4.mono hs3)
        have hF4 := Kd.F_below hF3 hb4
        have hs4 := hb4'.size
        clear q0 q1 q2 q3 q4 q5 q6 q7 q8 q9 q10 gq0 gq1 gq2 gq3 gq4 gq5 gq6 gq7 gq8 gq9 gq10 k0 k1 k2 k3 k4 k5 k6 k7 k8 k9 k10 f0 f1 f2 f3 f4 f5 f6 f7 f8 f9 f10 hbf hcon hr3 hb3 hF3 hb4 HM
        obtain ⟨q0, q1, q2, q3, q4, q5, q6, q7, q8, q9, q10, gq0, gq1, gq2, gq3, gq4, gq5, gq6, gq7, gq8, gq9, gq10⟩ := m_cells hm4.blk
        obtain ⟨k0, k1, k2, k3, k4, k5, k6, k7, k8, k9, k10, f0, f1, f2, f3, f4, f5, f6, f7, f8, f9, f10⟩ := m_cells hr4
        have hbf := fun v0 v1 v2 v3 v4 v5 v6 v7 v8 v9 v10 => below11 (v0 := v0) (v1 := v1) (v2 := v2) (v3 := v3) (v4 := v4) (v5 := v5) (v6 := v6) (v7 := v7) (v8 := v8) (v9 := v9) (v10 := v10) hb4' (Nat.le_succ w.heap.size)
        have HM := Lib.hid hm4
        clear hm4
        go_wp2
        refine bodyPost_ret (results_ct rfl _ _ (w.heap.size + 1) 34 #[.int .i64 t.f0, .int .u64 t.f1.f0, .int .u64 t.f1.f1, .int .u64 t.f1.f2, .int .u64 t.f1.f3, .slice At t.f2.length ct, .int .i64 t.f3, .int .i64 t.f4, .slice A1 M.sets.length c1, .slice A4 M.scs.length c4, .slice (some ⟨g3, 0, none⟩) ps.length c3] (0, 0) _ rfl ?hg Try.underlying34 rfl (by kernel_rfl)) rfl ?_
        case hg => exact set11 hr4
        have hm := HM.out
        have hlg : w.heap.size + 1 < w2.heap.size := by omega
        have hfin := (((((((((((hm.far (p := ⟨w.heap.size + 1, 0, none⟩) hlg (.int .i64 t.f0)).far (p := ⟨w.heap.size + 1, 1, none⟩) hlg (.int .u64 t.f1.f0)).far (p := ⟨w.heap.size + 1, 2, none⟩) hlg (.int .u64 t.f1.f1)).far (p := ⟨w.heap.size + 1, 3, none⟩) hlg (.int .u64 t.f1.f2)).far (p := ⟨w.heap.size + 1, 4, none⟩) hlg (.int .u64 t.f1.f3)).far (p := ⟨w.heap.size + 1, 5, none⟩) hlg (.slice At t.f2.length ct)).far (p := ⟨w.heap.size + 1, 6, none⟩) hlg (.int .i64 t.f3)).far (p := ⟨w.heap.size + 1, 7, none⟩) hlg (.int .i64 t.f4)).far (p := ⟨w.heap.size + 1, 8, none⟩) hlg (.slice A1 M.sets.length c1)).far (p := ⟨w.heap.size + 1, 9, none⟩) hlg (.slice A4 M.scs.length c4)).far (p := ⟨w.heap.size + 1, 10, none⟩) hlg (.slice (some ⟨g3, 0, none⟩) ps.length c3))
        have hff := Kd.F_now (Kd.F_far (p := ⟨w.heap.size + 1, 10, none⟩) (Kd.F_far (p := ⟨w.heap.size + 1, 9, none⟩) (Kd.F_far (p := ⟨w.heap.size + 1, 8, none⟩) (Kd.F_far (p := ⟨w.heap.size + 1, 7, none⟩) (Kd.F_far (p := ⟨w.heap.size + 1, 6, none⟩) (Kd.F_far (p := ⟨w.heap.size + 1, 5, none⟩) (Kd.F_far (p := ⟨w.heap.size + 1, 4, none⟩) (Kd.F_far (p := ⟨w.heap.size + 1, 3, none⟩) (Kd.F_far (p := ⟨w.heap.size + 1, 2, none⟩) (Kd.F_far (p := ⟨w.heap.size + 1, 1, none⟩) (Kd.F_far (p := ⟨w.heap.size + 1, 0, none⟩) hF4 (fun _ hk => hk) (.int .i64 t.f0)) (fun _ hk => hk) (.int .u64 t.f1.f0)) (fun _ hk => hk) (.int .u64 t.f1.f1)) (fun _ hk => hk) (.int .u64 t.f1.f2)) (fun _ hk => hk) (.int .u64 t.f1.f3)) (fun _ hk => hk) (.slice At t.f2.length ct)) (fun _ hk => hk) (.int .i64 t.f3)) (fun _ hk => hk) (.int .i64 t.f4)) (fun _ hk => hk) (.slice A1 M.sets.length c1)) (fun _ hk => hk) (.slice A4 M.scs.length c4)) (fun _ hk => hk) (.slice (some ⟨g3, 0, none⟩) ps.length c3))
        have hbe := hbf (.int .i64 t.f0) (.int .u64 t.f1.f0) (.int .u64 t.f1.f1) (.int .u64 t.f1.f2) (.int .u64 t.f1.f3) (.slice At t.f2.length ct) (.int .i64 t.f3) (.int .i64 t.f4) (.slice A1 M.sets.length c1) (.slice A4 M.scs.length c4) (.slice (some ⟨g3, 0, none⟩) ps.length c3)
        rw [← HT.out.1, ← HT.out.2]
        have hbg := HBG.out
        rw [← HT.out.2] at hbg
        exact ⟨.inr ⟨hbg, g, At, ct, _, _, _, ps, rfl, ⟨hff, hl1⟩, hfin.mono (by omega)⟩, hbe⟩
end Go.Proofs.Ytlnhiogpjdhhbaa.P
