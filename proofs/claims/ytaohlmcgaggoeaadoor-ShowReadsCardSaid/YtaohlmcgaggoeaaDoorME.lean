/- An append that the walk may not lay open; what it comes to, for elements of any number of cells. -/
import Derived.Test.YtaohlmcgaggoeaaDoorMC
import Derived.RangeFuncBox
import Derived.Test.YtaohlmcgaggoeaaDoorMD
import Derived.Test.YtaohlmcgaggoeaaDoorPx10
import Derived.OrdersHeld
import Derived.Deep.DeepCutAuto
namespace Go.Proofs.YtaohlmcgaggoeaaDoor
open Go.RowKit

/-- The append, under a name of its own. -/
def AppS (ts : Array TypeId) (ty : TypeId) (args : Array Value) : Sem Value := Builtin.append_ ts ty args
theorem appS (ts : Array TypeId) (ty : TypeId) (args : Array Value) : Builtin.append_ ts ty args = AppS ts ty args := rfl

theorem app_row {P : Program} (W : World) {n₀ : Nat} {i0 : TypeInfo} (T e : TypeId) (z : Value) (size bytes : Nat) (hT : P.underlying T = some (.slice e)) (hi : P.info? e = some i0) (hz0 : i0.zero = some z) (hz1 : i0.size = size) (hz2 : i0.bytes = bytes) (hz3 : z.cells.size = size) (hs : 0 < size)
    (v : Value) (n : Nat) (xs : List Value) (hrow : W.ownsRow n₀ e size v n xs) (hn₀ : n₀ ≤ W.heap.size) (us : List Value) (hu : us.length = size) (h1 : ∀ u ∈ us, u.oneCell' = true) (hl : (n + 1) * bytes ≤ 140737488355328) (hl2 : n ≤ 1000000000) :
    ∃ g c w', (AppS #[T, T] T #[v, .slice (some ⟨W.heap.size, 0, none⟩) 1 1]).run P (W.alloc (.cells us.toArray e)) = .ok (.slice (some ⟨g, 0, none⟩) (n + 1) c) w' ∧ w'.ownsRow n₀ e size (.slice (some ⟨g, 0, none⟩) (n + 1) c) (n + 1) (xs ++ us) ∧ W.grownBy w' v.ownBlock := by
  obtain ⟨v', w', hr, h2, h3, _⟩ := run_append_own_at (P := P) (W.alloc (.cells us.toArray e)) n₀ T T e i0 z size bytes hT hi hz0 hz1 hz2 hz3 hs v n xs (World.ownsRow.alloc hrow _) ⟨W.heap.size, 0, none⟩ 1 1 us (by rw [hu, Nat.one_mul])
    (fun j x hx => by
      rw [Addr.add_lit, Nat.zero_add]
      show (W.alloc (.cells us.toArray e)).cell? ⟨W.heap.size, j, none⟩ = some x
      rw [blk_cell (heap_alloc_new W _) j]
      simpa using hx) h1 (by unfold maxLen; omega) hl (by simp; omega)
  obtain ⟨g', cap', rfl⟩ := ownsRow_succ h2
  refine ⟨g', cap', w', hr, h2, ⟨h3.os, h3.tape, h3.output, by have := h3.size; simp at this; omega, fun k hk hne => (h3.block k (by simp; omega) hne).trans (Below.heap_alloc W _ k hk)⟩⟩
end Go.Proofs.YtaohlmcgaggoeaaDoor
/- The levels in memory: rows of nodes that are written, nodes that aren't any more. -/
namespace Go.Proofs.YtaohlmcgaggoeaaDoor.P
open Go.RowKit Go.Proofs.YtaohlmcgaggoeaaDoor Go.Proofs.YtaohlmcgaggoeaaDoorW.PrintWords Go.Proofs.YtaohlmcgaggoeaaDoorW.PrintLast Go.Proofs.YtaohlmcgaggoeaaDoorW.PrintMore
set_option linter.unusedVariables false
set_option linter.unusedSimpArgs false
abbrev Own := Nat → Option Nat
/-- A block that isn't written any more. -/
def okO (own : Own) (k : Nat) : Prop := own k = none
theorem own_move {w w1 : World} {base : Nat} {e : TypeId} {size n : Nat} {v : Value} {xs : List Value} (h : w.ownsRow base e size v n xs) (hm : ∀ k, v.ownBlock = some k → w1.heap[k]? = w.heap[k]?) : w1.ownsRow base e size v n xs := by
  refine ⟨h.1, ?_⟩
  rcases h.2 with hn | ⟨g, cap, cur, rfl, hb, hg, r⟩
  · exact .inl hn
  · exact .inr ⟨g, cap, cur, rfl, hb, (hm g rfl).trans hg, r⟩
/-- A node's place: where its parts are. -/
structure Pn where
  t : T
  A : Option Addr
  c : Nat
def Pn.cells (p : Pn) : List Value := [.int .i64 p.t.f0, .int .u64 p.t.f1.f0, .int .u64 p.t.f1.f1, .int .u64 p.t.f1.f2, .int .u64 p.t.f1.f3, .slice p.A p.t.f2.length p.c, .int .i64 p.t.f3, .int .i64 p.t.f4]
def ncs (ps : List Pn) : List Value := (ps.map Pn.cells).flatten
theorem ncs_length : ∀ ps : List Pn, (ncs ps).length = ps.length * 8
  | [] => rfl
  | p :: ps => by
    have := ncs_length ps
    unfold ncs at *
    rw [List.map_cons, List.flatten_cons, List.length_append, this, List.length_cons]
    show 8 + _ = _
    omega
theorem ncs_append (ps qs : List Pn) : ncs (ps ++ qs) = ncs ps ++ ncs qs := by unfold ncs; rw [List.map_append, List.flatten_append]
theorem ncs_one (p : Pn) : ncs [p] = p.cells := by unfold ncs; simp
/-- The node is whole, in blocks that aren't written any more. -/
structure Nd (w : World) (own : Own) (p : Pn) : Prop where
  f : Kd.F k27 w (okO own) p.A p.t.f2.length p.t.f2
  cap : p.t.f2.length ≤ p.c
/-- What was whole stays so. -/
structure Keeps (w w1 : World) (own own1 : Own) : Prop where
  size : w.heap.size ≤ w1.heap.size
  blk : ∀ k, k < w.heap.size → own k = none → w1.heap[k]? = w.heap[k]?
  ok : ∀ k, k < w.heap.size → own k = none → own1 k = none
theorem Keeps.refl (w : World) (own : Own) : Keeps w w own own := ⟨Nat.le_refl _, fun _ _ _ => rfl, fun _ _ h => h⟩
theorem Keeps.trans {w w1 w2 : World} {o o1 o2 : Own} (h : Keeps w w1 o o1) (k : Keeps w1 w2 o1 o2) : Keeps w w2 o o2 :=
  ⟨Nat.le_trans h.size k.size, fun i hi ho => (k.blk i (Nat.lt_of_lt_of_le hi h.size) (h.ok i hi ho)).trans (h.blk i hi ho), fun i hi ho => k.ok i (Nat.lt_of_lt_of_le hi h.size) (h.ok i hi ho)⟩
theorem Nd.keep {w w1 : World} {own own1 : Own} {p : Pn} (h : Nd w own p) (k : Keeps w w1 own own1) : Nd w1 own1 p :=
  ⟨Kd.F_mono (Kd.F_step (Kd.F_bound h.f) (fun i hi hl => k.blk i hl hi.1)) (fun i hi => k.ok i hi.2 hi.1), h.cap⟩
theorem Nd.leaf (w : World) (own : Own) (t : T) (h : t.f2 = []) : Nd w own ⟨t, none, 0⟩ := by
  obtain ⟨a, b, ps, lo, hi⟩ := t
  dsimp only at h
  subst h
  exact ⟨Kd.F_nil _ _ _, Nat.le_refl _⟩
theorem Nd.now {w : World} {own : Own} {p : Pn} (h : Nd w own p) : Kd.C k27 w p.A p.t.f2.length p.t.f2 := Kd.F_now h.f
/-- Nodes, as the parts of another one. -/
theorem reps_ncs {w : World} {ps : List Pn} (h : ∀ p ∈ ps, p.t.f2.length ≤ p.c ∧ Kd.C k27 w p.A p.t.f2.length p.t.f2) : Reps (k27.K w) 8 (ps.map Pn.t) (ncs ps) := by
  induction ps with
  | nil => exact Reps.none _ _
  | cons p ps ih =>
    have hp := h p (List.mem_cons_self ..)
    have := ih fun q hq => h q (List.mem_cons_of_mem _ hq)
    unfold ncs
    rw [List.map_cons, List.map_cons, List.flatten_cons]
    exact Reps.c8 (k27_mk w p.t hp.1 hp.2) this
/-- A row of nodes that may be written. -/
structure Rw (w : World) (base : Nat) (own : Own) (tag : Nat) (v : Value) (ts : List T) (ps : List Pn) : Prop where
  ts : ps.map Pn.t = ts
  nd : ∀ p ∈ ps, Nd w own p
  row : w.ownsRow base 27 8 v ps.length (ncs ps)
  tag : ∀ k, v.ownBlock = some k → own k = some tag
namespace Rw
variable {w w1 : World} {base : Nat} {own own1 : Own} {tag : Nat} {v : Value} {ts : List T} {ps : List Pn}
theorem len (h : Rw w base own tag v ts ps) : ps.length = ts.length := by rw [← h.ts, List.length_map]
theorem lt (h : Rw w base own tag v ts ps) {k : Nat} (hk : v.ownBlock = some k) : base ≤ k ∧ k < w.heap.size := h.row.lt k hk
theorem keep (h : Rw w base own tag v ts ps) (k : Keeps w w1 own own1) (hb : ∀ i, i < w.heap.size → own i = some tag → w1.heap[i]? = w.heap[i]?) (ho : ∀ i, i < w.heap.size → own i = some tag → own1 i = some tag) : Rw w1 base own1 tag v ts ps :=
  ⟨h.ts, fun p hp => (h.nd p hp).keep k, own_move h.row fun i hi => hb i (h.lt hi).2 (h.tag i hi), fun i hi => ho i (h.lt hi).2 (h.tag i hi)⟩
theorem nil (w : World) (base : Nat) (own : Own) (tag : Nat) : Rw w base own tag (.slice none 0 0) [] [] := ⟨rfl, fun _ h => (by cases h), World.ownsRow_nil _ _ _ _, fun _ h => (by cases h)⟩
theorem sl (h : Rw w base own tag v ts ps) : ∃ A c, v = .slice A ts.length c ∧ ts.length ≤ c ∧ c ≤ 9223372036854775807 ∧ (A = none → c = 0) := by
  have hl := h.len
  rcases h.row.2 with ⟨rfl, h0⟩ | ⟨g, cap, cur, rfl, _, _, h1, h2, _⟩
  · exact ⟨none, 0, by rw [← hl, h0], by omega, by omega, fun _ => rfl⟩
  · exact ⟨_, cap, by rw [hl], by omega, by unfold maxLen at h2; omega, fun e => by cases e⟩
/-- The row isn't written any more. -/
theorem freeze (h : Rw w base own tag v ts ps) (hk : ∀ i, i < w.heap.size → own i = none → own1 i = none) (ht : ∀ i, i < w.heap.size → own i = some tag → own1 i = none) :
    ∃ A c, v = .slice A ts.length c ∧ ts.length ≤ c ∧ Kd.F k27 w (okO own1) A ts.length ts := by
  obtain ⟨A, c, rfl, hc, hm, _⟩ := h.sl
  refine ⟨A, c, rfl, hc, fun W hW => ?_⟩
  have hrow : W.ownsRow base 27 8 (.slice A ts.length c) ps.length (ncs ps) := own_move h.row fun i hi => hW i (ht i (h.lt hi).2 (h.tag i hi)) (h.lt hi).2
  have hn : ∀ p ∈ ps, p.t.f2.length ≤ p.c ∧ Kd.C k27 W p.A p.t.f2.length p.t.f2 := fun p hp => ⟨(h.nd p hp).cap, (h.nd p hp).f W fun i hi hl => hW i (hk i hl hi) hl⟩
  have hr := reps_ncs hn
  rw [h.ts] at hr
  refine ⟨rfl, by omega, fun hpos => ?_⟩
  rcases hrow.2 with ⟨e, h0⟩ | ⟨g, cap, cur, e, _, hg, _⟩
  · have := h.len; omega
  · injection e with e1 e2 e3
    subst e1
    refine ⟨_, rfl, fun j p hj => ⟨((ncs ps).drop (j * 8)).take 8, ?_, hr.2 j p hj, fun i u hu => ?_⟩⟩
    · have hlt : j < ts.length := (List.getElem?_eq_some_iff.1 hj).1
      rw [List.length_take, List.length_drop, ncs_length, h.len]
      show min 8 _ = 8
      omega
    · have hi : i < 8 := by
        have := (List.getElem?_eq_some_iff.1 hu).1
        rw [List.length_take] at this
        omega
      rw [List.getElem?_take, if_pos hi, List.getElem?_drop] at hu
      have := hrow.cells (g := g) rfl (j * 8 + i) u hu
      exact this
end Rw
end Go.Proofs.YtaohlmcgaggoeaaDoor.P
/- The levels in memory: the stack. -/
namespace Go.Proofs.YtaohlmcgaggoeaaDoor.P
open Go.RowKit Go.Proofs.YtaohlmcgaggoeaaDoor Go.Proofs.YtaohlmcgaggoeaaDoorW.PrintWords Go.Proofs.YtaohlmcgaggoeaaDoorW.PrintLast Go.Proofs.YtaohlmcgaggoeaaDoorW.PrintMore
set_option linter.unusedVariables false
set_option linter.unusedSimpArgs false
/-- A level in memory. -/
structure LvE where
  v0 : Value
  v1 : Value
  lv : Lv
  p0 : List Pn
  p1 : List Pn
def lcs (qs : List LvE) : List Value := (qs.map fun q => [q.v0, q.v1]).flatten
theorem lcs_length : ∀ qs : List LvE, (lcs qs).length = qs.length * 2
  | [] => rfl
  | q :: qs => by
    have := lcs_length qs
    unfold lcs at *
    rw [List.map_cons, List.flatten_cons, List.length_append, this]
    show 2 + qs.length * 2 = (qs.length + 1) * 2
    omega
theorem lcs_append (ps qs : List LvE) : lcs (ps ++ qs) = lcs ps ++ lcs qs := by unfold lcs; rw [List.map_append, List.flatten_append]
theorem lcs_one (q : LvE) : lcs [q] = [q.v0, q.v1] := by unfold lcs; simp
theorem lcs_get0 (pre : List LvE) (e : LvE) : (lcs (pre ++ [e]))[pre.length * 2]? = some e.v0 := by
  rw [lcs_append, lcs_one, List.getElem?_append_right (by rw [lcs_length]; exact Nat.le_refl _), lcs_length]; simp
theorem lcs_get1 (pre : List LvE) (e : LvE) : (lcs (pre ++ [e]))[pre.length * 2 + 1]? = some e.v1 := by
  rw [lcs_append, lcs_one, List.getElem?_append_right (by rw [lcs_length]; omega), lcs_length]; simp
theorem lcs_set0 (pre : List LvE) (e : LvE) (u : Value) : (lcs (pre ++ [e])).set (pre.length * 2) u = lcs (pre ++ [{ e with v0 := u }]) := by
  rw [lcs_append, lcs_one, lcs_append, lcs_one, List.set_append_right _ _ (by rw [lcs_length]; exact Nat.le_refl _), lcs_length]; simp
theorem lcs_set1 (pre : List LvE) (e : LvE) (u : Value) : (lcs (pre ++ [e])).set (pre.length * 2 + 1) u = lcs (pre ++ [{ e with v1 := u }]) := by
  rw [lcs_append, lcs_one, lcs_append, lcs_one, List.set_append_right _ _ (by rw [lcs_length]; omega), lcs_length, show pre.length * 2 + 1 - pre.length * 2 = 1 by omega]; rfl
/-- One cell of a row of one's own is written. -/
theorem own_setc {W : World} {base g n cp size : Nat} {e : TypeId} {cs : List Value} {m : Nat} (h : W.ownsRow base e size (.slice (some ⟨g, 0, none⟩) n cp) m cs) (i : Nat) (hi : i < cs.length) (u : Value) :
    (W.setCell ⟨g, i, none⟩ u).ownsRow base e size (.slice (some ⟨g, 0, none⟩) n cp) m (cs.set i u) := by
  refine ⟨by rw [List.length_set]; exact h.1, ?_⟩
  rcases h.2 with ⟨hv, _⟩ | ⟨g', cap, cur, hv, hb, hg, hn, hm, hs, ht⟩
  · cases hv
  · injection hv with h1 h2 h3
    injection h1 with h1
    injection h1 with h1 _ _
    subst h1 h3
    refine .inr ⟨g, cp, cur.setIfInBounds i u, by rw [h2], hb, blk_set hg _ _, hn, hm, by simpa using hs, ?_⟩
    rw [Array.toList_setIfInBounds, List.take_set, ht]
/-- The stack of levels. -/
structure LvI (w : World) (base R : Nat) (lv : Value) (own : Own) (qs : List LvE) : Prop where
  reg : own R = some 0
  row : w.ownsRow base 53 2 lv qs.length (lcs qs)
  tag : ∀ k, lv.ownBlock = some k → own k = some 1
  new : ∀ k, w.heap.size ≤ k → own k = none
  el : ∀ i (h : i < qs.length), Rw w base own (2 + 2 * i) qs[i].v0 qs[i].lv.rows qs[i].p0 ∧ Rw w base own (3 + 2 * i) qs[i].v1 qs[i].lv.row qs[i].p1
  low : ∀ k, k < base → k < w.heap.size ∧ own k = some 0
namespace LvI
variable {w w1 w2 : World} {base R : Nat} {lv : Value} {own own1 : Own} {qs pre : List LvE} {e e' : LvE}
theorem fr (h : LvI w base R lv own qs) (hf : Fr w.heap.size R w w1) : LvI w1 base R lv own qs := by
  have hne : ∀ i t, own i = some t → t ≠ 0 → i ≠ R := fun i t hi ht e => by
    rw [e, h.reg] at hi
    injection hi with hi
    exact ht hi.symm
  have hnn : ∀ i, own i = none → i ≠ R := fun i hi e => by rw [e, h.reg] at hi; cases hi
  have k : Keeps w w1 own own := ⟨hf.size, fun i hi ho => hf.block i hi (hnn i ho), fun _ _ ho => ho⟩
  refine ⟨h.reg, own_move h.row fun i hi => hf.block i (h.row.lt i hi).2 (hne i 1 (h.tag i hi) (by decide)), h.tag, fun k hk => h.new k (Nat.le_trans hf.size hk), fun i hi => ?_, fun k hk => ⟨Nat.lt_of_lt_of_le (h.low k hk).1 hf.size, (h.low k hk).2⟩⟩
  obtain ⟨a, b⟩ := h.el i hi
  exact ⟨a.keep k (fun j hj ho => hf.block j hj (hne j _ ho (by omega))) (fun _ _ ho => ho), b.keep k (fun j hj ho => hf.block j hj (hne j _ ho (by omega))) (fun _ _ ho => ho)⟩
/-- The top level's cells. -/
theorem cells (h : LvI w base R lv own (pre ++ [e])) : ∃ L cap, lv = .slice (some ⟨L, 0, none⟩) (pre.length + 1) cap ∧ base ≤ L ∧ L < w.heap.size ∧ own L = some 1 ∧ pre.length + 1 ≤ cap ∧ cap ≤ 9223372036854775807 ∧
    w.cell? ⟨L, pre.length * 2, none⟩ = some e.v0 ∧ w.cell? ⟨L, pre.length * 2 + 1, none⟩ = some e.v1 ∧ w.frozen? ⟨L, pre.length * 2, none⟩ = false ∧ w.frozen? ⟨L, pre.length * 2 + 1, none⟩ = false := by
  have hr := h.row
  have ht := h.tag
  have hlen : (pre ++ [e]).length = pre.length + 1 := by simp
  rcases hr.2 with ⟨rfl, h0⟩ | ⟨L, cap, cur, rfl, hb, hg, hn, hm, _⟩
  · omega
  · have hc := hr.cells (g := L) rfl
    have h0 := hc _ _ (lcs_get0 pre e)
    have h1 := hc _ _ (lcs_get1 pre e)
    rw [Addr.add_lit, Nat.zero_add] at h0 h1
    exact ⟨L, cap, by rw [hlen], hb, blk_lt hg, ht L rfl, by omega, by unfold maxLen at hm; omega, h0, h1, blk_frozen hg _, blk_frozen hg _⟩
theorem top (h : LvI w base R lv own (pre ++ [e])) : Rw w base own (2 + 2 * pre.length) e.v0 e.lv.rows e.p0 ∧ Rw w base own (3 + 2 * pre.length) e.v1 e.lv.row e.p1 := by
  have := h.el pre.length (by simp)
  simpa using this
/-- The top level is turned. -/
theorem upd (h : LvI w base R lv own (pre ++ [e])) (k : Keeps w w1 own own1)
    (hs : ∀ i, i < w.heap.size → ∀ t, own i = some t → t ≠ 2 + 2 * pre.length → t ≠ 3 + 2 * pre.length → w1.heap[i]? = w.heap[i]? ∧ own1 i = some t) (hR : own1 R = some 0) (hn : ∀ k, w1.heap.size ≤ k → own1 k = none)
    (r0 : Rw w1 base own1 (2 + 2 * pre.length) e'.v0 e'.lv.rows e'.p0) (r1 : Rw w1 base own1 (3 + 2 * pre.length) e'.v1 e'.lv.row e'.p1)
    (hw2 : ∀ i, own1 i ≠ some 1 → w2.heap[i]? = w1.heap[i]?) (hsz : w1.heap.size ≤ w2.heap.size) (hrow : w2.ownsRow base 53 2 lv (pre.length + 1) (lcs (pre ++ [e']))) : LvI w2 base R lv own1 (pre ++ [e']) := by
  have k2 : Keeps w1 w2 own1 own1 := ⟨hsz, fun i _ ho => hw2 i (by rw [ho]; simp), fun _ _ ho => ho⟩
  have mv : ∀ {t : Nat} {v : Value} {ts : List T} {ps : List Pn}, t ≠ 1 → Rw w1 base own1 t v ts ps → Rw w2 base own1 t v ts ps := fun ht r => r.keep k2 (fun i _ ho => hw2 i (by rw [ho]; simpa using ht)) (fun _ _ ho => ho)
  refine ⟨hR, by simpa using hrow, fun i hi => ?_, fun k hk => hn k (Nat.le_trans hsz hk), fun i hi => ?_, fun i hi => ⟨Nat.lt_of_lt_of_le (h.low i hi).1 (Nat.le_trans k.size hsz), (hs i (h.low i hi).1 0 (h.low i hi).2 (by omega) (by omega)).2⟩⟩
  · have := h.tag i hi
    exact (hs i (h.row.lt i hi).2 1 this (by omega) (by omega)).2
  · by_cases hip : i < pre.length
    · obtain ⟨a, b⟩ := h.el i (by simp; omega)
      simp only [List.getElem_append_left hip] at a b ⊢
      exact ⟨mv (by omega) (a.keep k (fun j hj ho => (hs j hj _ ho (by omega) (by omega)).1) (fun j hj ho => (hs j hj _ ho (by omega) (by omega)).2)),
        mv (by omega) (b.keep k (fun j hj ho => (hs j hj _ ho (by omega) (by omega)).1) (fun j hj ho => (hs j hj _ ho (by omega) (by omega)).2))⟩
    · have : i = pre.length := by simp at hi; omega
      subst this
      simp only [List.getElem_append_right (Nat.le_refl _), Nat.sub_self, List.getElem_cons_zero]
      exact ⟨mv (by omega) r0, mv (by omega) r1⟩
end LvI
end Go.Proofs.YtaohlmcgaggoeaaDoor.P
/- The machine's walks: top, one, put. -/
namespace Go.Proofs.YtaohlmcgaggoeaaDoor.P
open Go.RowKit Go.Proofs.YtaohlmcgaggoeaaDoor Go.Proofs.YtaohlmcgaggoeaaDoorW.PrintWords Go.Proofs.YtaohlmcgaggoeaaDoorW.PrintLast Go.Proofs.YtaohlmcgaggoeaaDoorW.PrintMore
set_option linter.unusedVariables false
set_option linter.unusedSimpArgs false
attribute [local go_sem ↓] appS
theorem top_any (R L n cap : Nat) (w : World) (hc : w.cell? ⟨R, 2, none⟩ = some (.slice (some ⟨L, 0, none⟩) (n + 1) cap)) (hn : n + 1 ≤ cap) (hcap : cap ≤ 9223372036854775807) :
    Calls Tryd.prog 25 #[.pointer (some ⟨R, 0, none⟩)] w fun e w' => e = .returned (.pointer (some ⟨L, n * 2, none⟩)) ∧ ∃ m, w' = w.drewN m := by
  obtain ⟨m, hm⟩ : ∃ m, m = n + 1 := ⟨_, rfl⟩
  rw [← hm] at hc
  have hw : IntKind.i64.wrap ((m : Int) - 1) = (n : Int) := by rw [IntKind.wrap_i64]; omega
  have h1 : (n : Int) < (m : Int) := by omega
  have HM := Lib.hid hm
  clear hm
  go_enter Tryd.func25, Tryd.ntmps25
  go_wp2
  go_quiet (fail)
  go_wp2
  go_ret
  exact ⟨rfl, _, rfl⟩
theorem one_f (kind : Int) (l : List T) : syntax_one.f kind l = some ((oneN kind l).f0, (oneN kind l).f1.f0, (oneN kind l).f1.f1, (oneN kind l).f1.f2, (oneN kind l).f1.f3, (oneN kind l).f2, (oneN kind l).f3, (oneN kind l).f4) := by
  unfold syntax_one.f oneN
  match l with
  | [] => simp [zN]
  | [x] => simp [rd_T27]
  | x :: y :: r =>
    have h0 : ¬ (((x :: y :: r).length : Int) = 0) := by simp only [List.length_cons]; omega
    have h1 : ¬ (((x :: y :: r).length : Int) = 1) := by simp only [List.length_cons]; omega
    rw [if_neg h0, if_neg h1]
theorem one_any (kind : Int) (own : Own) (A : Option Addr) (c : Nat) (l : List T) (w : World) (hl : l.length ≤ c) (hF : Kd.F k27 w (okO own) A l.length l) :
    Calls Tryd.prog 27 #[.int .i64 kind, .slice A l.length c] w fun e w' => ∃ A' c', e = .returned (ndV (oneN kind l) A' c') ∧ Below w.heap.size w w' ∧
      ∀ own', (∀ k, k < w.heap.size → own k = none → own' k = none) → (∀ k, w.heap.size ≤ k → own' k = none) → Nd w' own' ⟨oneN kind l, A', c'⟩ := by
  refine (syntax_one.calls kind (okO own) A c l _ _ _ _ _ _ _ _ w (Kd.V_mk hl hF) (one_f kind l)).mono fun e w' h => ?_
  obtain ⟨v, he, ⟨A', c', hv, hle, hf⟩, hb⟩ := h
  subst hv
  refine ⟨A', c', he, hb, fun own' h1 h2 => ⟨?_, hle⟩⟩
  refine Kd.F_mono (Kd.F_bound hf) fun k hk => ?_
  by_cases hlt : k < w.heap.size
  · rcases hk.1 with h | h
    · exact h1 k hlt h
    · omega
  · exact h2 k (by omega)
/-- The same, the node under a name. -/
theorem one_q (kind : Int) (own : Own) (A : Option Addr) (c : Nat) (l : List T) (w : World) (hl : l.length ≤ c) (hF : Kd.F k27 w (okO own) A l.length l) :
    Calls Tryd.prog 27 #[.int .i64 kind, .slice A l.length c] w fun e w' => ∃ q : Pn, Hid (q.t = oneN kind l) ∧
      e = .returned (.agg #[.int .i64 q.t.f0, .int .u64 q.t.f1.f0, .int .u64 q.t.f1.f1, .int .u64 q.t.f1.f2, .int .u64 q.t.f1.f3, .slice q.A q.t.f2.length q.c, .int .i64 q.t.f3, .int .i64 q.t.f4]) ∧ Below w.heap.size w w' ∧
      ∀ own', (∀ k, k < w.heap.size → own k = none → own' k = none) → (∀ k, w.heap.size ≤ k → own' k = none) → Nd w' own' q :=
  (one_any kind own A c l w hl hF).mono fun e w' ⟨A', c', h1, h2, h3⟩ => ⟨⟨oneN kind l, A', c'⟩, (rfl : _ = _), h1, h2, h3⟩
theorem infoN : (Tryd.prog.info? 27).map (fun i => (i.zero, i.size, i.bytes)) = some (some (.agg #[.int .i64 0, .int .u64 0, .int .u64 0, .int .u64 0, .int .u64 0, .slice none 0 0, .int .i64 0, .int .i64 0]), 8, 80) := by kernel_rfl
/-- A node put behind a row; the node lies in block b. -/
theorem app_node (W : World) (base : Nat) (v : Value) (ps : List Pn) (hrow : W.ownsRow base 27 8 v ps.length (ncs ps)) (hbase : base ≤ W.heap.size) (b : Nat) (us : List Value) (hu : us.length = 8) (h1 : ∀ u ∈ us, u.oneCell' = true)
    (hb : W.heap[b]? = some (.cells us.toArray 27 (0, 0))) (hl : ps.length ≤ 100000) :
    ∃ g c w', (AppS #[25, 25] 25 #[v, .slice (some ⟨b, 0, none⟩) 1 1]).run Tryd.prog W = .ok (.slice (some ⟨g, 0, none⟩) (ps.length + 1) c) w' ∧
      w'.ownsRow base 27 8 (.slice (some ⟨g, 0, none⟩) (ps.length + 1) c) (ps.length + 1) (ncs ps ++ us) ∧ W.grownBy w' v.ownBlock ∧ (v.ownBlock = some g ∨ W.heap.size ≤ g) := by
  obtain ⟨i0, hi, hz0, hz1, hz2⟩ := info_parts infoN
  obtain ⟨v', w', hr, h2, h3, _, h4⟩ := run_append_own_at (P := Tryd.prog) W base 25 25 27 i0 _ 8 80 Tryd.underlying25 hi hz0 hz1 hz2 rfl (by omega) v ps.length (ncs ps) hrow ⟨b, 0, none⟩ 1 1 us (by rw [hu])
    (fun j x hx => by
      rw [Addr.add_lit, Nat.zero_add]
      rw [blk_cell hb j]
      simpa using hx) h1 (by unfold maxLen; omega) (by omega) hbase
  obtain ⟨g', cap', rfl⟩ := ownsRow_succ h2
  refine ⟨g', cap', w', hr, h2, h3, ?_⟩
  rcases h4 with h | h
  · left; rw [← h]; rfl
  · right
    have : g' = W.heap.size := by
      have h5 : (Value.slice (some ⟨g', 0, none⟩) (ps.length + 1) cap').ownBlock = some g' := rfl
      rw [h5] at h
      injection h
    omega
theorem cellA {W w0 : World} {a : Addr} {v : Value} (h : w0.cell? a = some v) (e : W.heap = w0.heap) : W.cell? a = some v := (World.cell?_of_block (by rw [e])).trans h
theorem cellB {W w0 : World} {a : Addr} {v : Value} {o : Obj} (h : w0.cell? a = some v) (e : W.heap = w0.heap.push o) : W.cell? a = some v := (World.cell?_of_block (by rw [e, Array.getElem?_push, if_neg (Nat.ne_of_lt (World.block_lt_of_cell? w0 _ h))])).trans h
/-- What an append of a node leaves. -/
structure AppOut (w0 : World) (base : Nat) (v : Value) (ps : List Pn) (us : List Value) (g c : Nat) (w' : World) : Prop where
  row : w'.ownsRow base 27 8 (.slice (some ⟨g, 0, none⟩) (ps.length + 1) c) (ps.length + 1) (ncs ps ++ us)
  gr : ∃ W, Below w0.heap.size w0 W ∧ W.grownBy w' v.ownBlock
  at_ : v.ownBlock = some g ∨ w0.heap.size ≤ g
theorem AppOut.cell {w0 : World} {base : Nat} {v : Value} {ps : List Pn} {us : List Value} {g c : Nat} {w' : World} (h : AppOut w0 base v ps us g c w') {a : Addr} {u : Value} (hc : w0.cell? a = some u) (hf : w0.frozen? a = false) (hne : ∀ k, v.ownBlock = some k → k ≠ a.block) :
    w'.cell? a = some u ∧ w'.frozen? a = false := by
  obtain ⟨W, hb, hg⟩ := h.gr
  have hlt := World.block_lt_of_cell? w0 _ hc
  have he : w'.heap[a.block]? = w0.heap[a.block]? := (hg.block a.block (Nat.lt_of_lt_of_le hlt hb.size) (fun e => hne _ e.symm rfl)).trans (hb.block _ hlt)
  exact ⟨(World.cell?_of_block he).trans hc, (World.frozen?_of_block he).trans hf⟩
theorem pushAt {w w0 : World} {o : Obj} (h : w.heap = w0.heap.push o) : w.heap[w0.heap.size]? = some o := by rw [h, Array.getElem?_push, if_pos rfl]
theorem pushBelow {w w0 : World} {o : Obj} (h : w.heap = w0.heap.push o) (hos : w.os = w0.os) (htp : w.tape = w0.tape) (hou : w.output = w0.output) : Below w0.heap.size w0 w :=
  ⟨hos, htp, hou, by rw [h, Array.size_push]; omega, fun k hk => by rw [h, Array.getElem?_push, if_neg (Nat.ne_of_lt hk)]⟩
/-- The append of a node, as one step of a region that draws. -/
theorem step_app_node {P : Program} {ops : Array Oper} {o : Oper} {a : Act} {w : World} {K : Act → World → Prop} {Q : Exit → Act → World → Prop} {E : Prop} (hP : P = Tryd.prog) (hgd : o.guard = none) (s x : Operand)
    (ho : o.op = .call { callee := .builtin .append, args := #[s, x], argTypes := #[25, 25] }) (hty : o.type = 25)
    (w0 : World) (base : Nat) (v : Value) (ps : List Pn) (us : List Value) (b : Nat) (hs : a.eval s = v) (hx : a.eval x = .slice (some ⟨b, 0, none⟩) 1 1) (hb : w.heap[b]? = some (.cells us.toArray 27 (0, 0)))
    (hB : Below w0.heap.size w0 w)
    (hrow : w0.ownsRow base 27 8 v ps.length (ncs ps)) (hbase : base ≤ w0.heap.size) (hu : us.length = 8) (h1 : ∀ u ∈ us, u.oneCell' = true) (hl : ps.length ≤ 100000)
    (h : ∀ g c w', AppOut w0 base v ps us g c w' → (v.ownBlock = some g ∨ w.heap.size ≤ g) → w.grownBy w' v.ownBlock → K (a.put o.dst (.slice (some ⟨g, 0, none⟩) (ps.length + 1) c)) w') :
    if Region.wanted o (yielded ops a.tmps) = true then Oper.wp P o a w K Q else E := by
  subst hP
  rw [if_pos (by simp [Region.wanted, hgd])]
  have hrow2 : w.ownsRow base 27 8 v ps.length (ncs ps) := own_move hrow fun i hi => hB.block i (hrow.lt i hi).2
  have hsz := hB.size
  obtain ⟨g, c, w', hr, h2, h3, h4⟩ := app_node w base v ps hrow2 (by omega) b us hu h1 hb hl
  have hk := h g c w' ⟨h2, ⟨w, hB, h3⟩, by rcases h4 with h4 | h4; exact .inl h4; exact .inr (by omega)⟩ h4 h3
  have hr' : (Builtin.append_ #[25, 25] o.type #[v, .slice (some ⟨b, 0, none⟩) 1 1]).run Tryd.prog w = .ok (.slice (some ⟨g, 0, none⟩) (ps.length + 1) c) w' := by rw [hty]; exact hr
  unfold Oper.wp
  simp only [execOp, ho, resolve, invoke, builtin, Sem.run_bind, Sem.run_pure, Result.andThen_ok, List.map_toArray, List.map_cons, List.map_nil, hs, hx, hr']
  exact hk
/-- Behind the append to the top row. -/
theorem put_end {w0 w9 : World} {base R : Nat} {lv : Value} {own : Own} {pre : List LvE} {e : LvE} {p : Pn} {L cap g c : Nat} (hL : LvI w0 base R lv own (pre ++ [e])) (hRl : R < w0.heap.size) (hp : Nd w0 own p) (hA : AppOut w0 base e.v1 e.p1 p.cells g c w9)
    (hlv : lv = .slice (some ⟨L, 0, none⟩) (pre.length + 1) cap) (hL1 : base ≤ L) (hL2 : L < w0.heap.size) (hL3 : own L = some 1) (hb : base ≤ w0.heap.size) :
    (∃ own' e', e'.lv = e.lv.put p.t ∧ LvI (w9.setCell ⟨L, pre.length * 2 + 1, none⟩ (.slice (some ⟨g, 0, none⟩) (e.p1.length + 1) c)) base R lv own' (pre ++ [e'])) ∧
      (w9.setCell ⟨L, pre.length * 2 + 1, none⟩ (.slice (some ⟨g, 0, none⟩) (e.p1.length + 1) c)).heap[R]? = w0.heap[R]? ∧ Below base w0 (w9.setCell ⟨L, pre.length * 2 + 1, none⟩ (.slice (some ⟨g, 0, none⟩) (e.p1.length + 1) c)) := by
  obtain ⟨hrow, ⟨W, hW, hgr⟩, hat⟩ := hA
  obtain ⟨rw0, rw1⟩ := hL.top
  have hb1 : ∀ k, e.v1.ownBlock = some k → own k = some (3 + 2 * pre.length) := rw1.tag
  have same : ∀ k, k < w0.heap.size → own k ≠ some (3 + 2 * pre.length) → w9.heap[k]? = w0.heap[k]? := fun k hk ho =>
    (hgr.block k (Nat.lt_of_lt_of_le hk hW.size) (fun e => ho (hb1 k e.symm))).trans (hW.block k hk)
  have gne : ∀ k, k < w0.heap.size → own k ≠ some (3 + 2 * pre.length) → k ≠ g := fun k hk ho e => by
    subst e
    rcases hat with h | h
    · exact ho (hb1 k h)
    · omega
  have hsz : w0.heap.size ≤ w9.heap.size := Nat.le_trans hW.size hgr.size
  have hRn : own R ≠ some (3 + 2 * pre.length) := by rw [hL.reg]; intro h; injection h with h; omega
  have hLn : own L ≠ some (3 + 2 * pre.length) := by rw [hL3]; intro h; injection h with h; omega
  have hRL : R ≠ L := fun e => by rw [e, hL3] at hRn; have := hL.reg; rw [e, hL3] at this; cases this
  have hgb : base ≤ g := (hrow.lt g rfl).1
  refine ⟨⟨fun k => if k = g then some (3 + 2 * pre.length) else own k, { e with v1 := .slice (some ⟨g, 0, none⟩) (e.p1.length + 1) c, lv := e.lv.put p.t, p1 := e.p1 ++ [p] }, rfl, ?_⟩, ?_, ?_⟩
  · have kp : Keeps w0 w9 own (fun k => if k = g then some (3 + 2 * pre.length) else own k) := ⟨hsz, fun k hk ho => same k hk (by rw [ho]; simp), fun k hk ho => by show (if k = g then _ else _) = _; rw [if_neg (gne k hk (by rw [ho]; simp))]; exact ho⟩
    refine hL.upd kp (fun i hi t ht h2 h3 => ?_) ?_ (fun k hk => ?_) ?_ ?_ (w2 := w9.setCell ⟨L, pre.length * 2 + 1, none⟩ (.slice (some ⟨g, 0, none⟩) (e.p1.length + 1) c)) (fun i hi => ?_) (by simp [World.setCell]) ?_
    · have hne : own i ≠ some (3 + 2 * pre.length) := by rw [ht]; intro h; injection h with h; omega
      exact ⟨same i hi hne, by show (if i = g then _ else _) = _; rw [if_neg (gne i hi hne)]; exact ht⟩
    · show (if R = g then _ else _) = _
      rw [if_neg (gne R hRl hRn)]; exact hL.reg
    · have hg9 := (hrow.lt g rfl).2
      show (if k = g then _ else _) = _
      rw [if_neg (by omega)]
      exact hL.new k (Nat.le_trans hsz hk)
    · have h23 : ∀ i, own i = some (2 + 2 * pre.length) → own i ≠ some (3 + 2 * pre.length) := fun i h h2 => by rw [h] at h2; injection h2 with h2; omega
      exact rw0.keep kp (fun i hi ho => same i hi (h23 i ho)) (fun i hi ho => by show (if i = g then _ else _) = _; rw [if_neg (gne i hi (h23 i ho))]; exact ho)
    · refine ⟨by rw [List.map_append, rw1.ts]; rfl, fun q hq => ?_, ?_, fun k hk => ?_⟩
      · rcases List.mem_append.1 hq with h | h
        · exact (rw1.nd q h).keep kp
        · rw [List.mem_singleton.1 h]; exact hp.keep kp
      · rw [ncs_append, ncs_one, List.length_append]; exact hrow
      · have : g = k := by injection hk
        subst this
        exact if_pos rfl
    · refine Below.heap_setCell _ _ _ _ fun e => hi ?_
      have e : i = L := e
      subst e
      show (if i = g then _ else _) = _
      rw [if_neg (gne i hL2 hLn)]; exact hL3
    · have hr9 : w9.ownsRow base 53 2 lv (pre ++ [e]).length (lcs (pre ++ [e])) := own_move hL.row fun i hi => by
        rw [hlv] at hi
        have : L = i := by injection hi
        subst this
        exact same _ hL2 hLn
      rw [hlv] at hr9 ⊢
      have := own_setc hr9 (pre.length * 2 + 1) (by rw [lcs_length]; simp; omega) (.slice (some ⟨g, 0, none⟩) (e.p1.length + 1) c)
      rw [lcs_set1] at this
      have hlc : lcs (pre ++ [{ e with v1 := .slice (some ⟨g, 0, none⟩) (e.p1.length + 1) c }]) = lcs (pre ++ [{ e with v1 := .slice (some ⟨g, 0, none⟩) (e.p1.length + 1) c, lv := e.lv.put p.t, p1 := e.p1 ++ [p] }]) := by rw [lcs_append, lcs_append, lcs_one, lcs_one]
      rw [hlc] at this
      simpa using this
  · exact (Below.heap_setCell _ _ _ _ hRL).trans (same R hRl hRn)
  · have h9 : Below base w0 w9 := (hW.mono hb).grown hgr (Nat.le_trans hb hW.size) fun k hk => (rw1.lt hk).1
    exact h9.setCell (p := ⟨L, pre.length * 2 + 1, none⟩) hL1 _
section
variable (R : Nat) (s : ByteArray) (lv : Value) (st : Sc) (w : World) (base : Nat) (own : Own) (pre : List LvE) (e : LvE) (p : Pn)
set_option maxHeartbeats 2000000 in
theorem put_any (hR : RdB w R s lv st) (hL : LvI w base R lv own (pre ++ [e])) (hp : Nd w own p) (hbase : base ≤ w.heap.size) (hbR : base ≤ R) (hlen : e.lv.row.length ≤ 1000) :
    Calls Tryd.prog 42 #[.pointer (some ⟨R, 0, none⟩), ndV p.t p.A p.c] w fun x w' => x = .returned (.tuple #[]) ∧ ∃ own' e', e'.lv = e.lv.put p.t ∧ RdB w' R s lv st ∧ LvI w' base R lv own' (pre ++ [e']) ∧ Below base w w' := by
  obtain ⟨w0, hw0⟩ : ∃ w0, w0 = w.alloc (.cells p.cells.toArray 27) := ⟨_, rfl⟩
  have hb0 : Below w.heap.size w w0 := by rw [hw0]; exact box_belowS _ _
  have hR0 := hR.below hb0
  have hL0 := hL.fr (Fr.of_below hb0 (Nat.le_refl _) : Fr w.heap.size R w w0)
  have hp0 := hp.keep (⟨hb0.size, fun k hk _ => hb0.block k hk, fun _ _ h => h⟩ : Keeps w w0 own own)
  have hblk : w0.heap[w.heap.size]? = some (.cells p.cells.toArray 27 (0, 0)) := by rw [hw0]; exact heap_alloc_new w _
  have hsz0 : w0.heap.size = w.heap.size + 1 := by rw [hw0]; simp
  obtain ⟨c0, c1, c2, c3, c4⟩ := hR0.cells
  obtain ⟨L, cap, hlv, hL1, hL2, hL3, hL4, hL5, l0, l1, fl0, fl1⟩ := hL0.cells
  obtain ⟨rw0, rw1⟩ := hL0.top
  rw [hlv] at c2
  have b0 : w0.cell? ⟨w.heap.size, 0, none⟩ = some (.int .i64 p.t.f0) := blk_cell hblk 0
  have b1 : w0.cell? ⟨w.heap.size, 1, none⟩ = some (.int .u64 p.t.f1.f0) := blk_cell hblk 1
  have b2 : w0.cell? ⟨w.heap.size, 2, none⟩ = some (.int .u64 p.t.f1.f1) := blk_cell hblk 2
  have b3 : w0.cell? ⟨w.heap.size, 3, none⟩ = some (.int .u64 p.t.f1.f2) := blk_cell hblk 3
  have b4 : w0.cell? ⟨w.heap.size, 4, none⟩ = some (.int .u64 p.t.f1.f3) := blk_cell hblk 4
  have b5 : w0.cell? ⟨w.heap.size, 5, none⟩ = some (.slice p.A p.t.f2.length p.c) := blk_cell hblk 5
  have b6 : w0.cell? ⟨w.heap.size, 6, none⟩ = some (.int .i64 p.t.f3) := blk_cell hblk 6
  have b7 : w0.cell? ⟨w.heap.size, 7, none⟩ = some (.int .i64 p.t.f4) := blk_cell hblk 7
  unfold ndV
  unfold Pn.cells at hw0
  obtain ⟨⟨tk, ⟨t0, t1, t2, t3⟩, tps, tlo, thi⟩, tA, tc⟩ := p
  dsimp only at *
  obtain ⟨tn, htn⟩ : ∃ tn, tn = tps.length := ⟨_, rfl⟩
  rw [← htn] at b5 hw0 ⊢
  have HTN := Lib.hid htn
  clear htn
  go_enter Tryd.func42, Tryd.ntmps42
  go_wp2
  rw [← hw0]
  have hlen1 := rw1.len
  have hlen2 : e.p1.length ≤ 100000 := by omega
  obtain ⟨n, hn⟩ : ∃ n, n = pre.length := ⟨_, rfl⟩
  have hfin := fun w9 g c => put_end (w9 := w9) (g := g) (c := c) hL0 hR0.lt hp0 (hlv := hlv) (hL1 := hL1) (hL2 := hL2) (hL3 := hL3) (hb := by omega)
  have hrow1 := rw1.row
  have hLne : ∀ k, e.v1.ownBlock = some k → k ≠ L := fun k hk h => by
    have := rw1.tag k hk
    rw [h, hL3] at this
    injection this with this
    omega
  have hbb : base ≤ w0.heap.size := by omega
  unfold Pn.cells at hfin
  dsimp only at hfin
  rw [← HTN.out] at hfin
  rw [← hn] at hfin c2 hL4 l0 l1 fl0 fl1
  have HFIN := Lib.hid hfin
  have HLV := Lib.hid hlv
  have HR0 := Lib.hid hR0
  have hl1 : ∀ k o, ((w0.drewN k).alloc o).cell? ⟨L, n * 2 + 1, none⟩ = some e.v1 := fun k o => cellB l1 rfl
  clear hfin hlv hL hL0 hp hp0 hblk rw0 rw1 hn hR0 hR hw0 hlen1 hlen hsz0
  go_region_law (first
    | (go_simp; go_at_call 25; refine (top_any R L n cap _ (by first | exact cellA c2 rfl | exact cellB c2 rfl) hL4 hL5).mono ?_; rintro x w1 ⟨rfl, m1, rfl⟩)
    | (refine step_app_node rfl rfl (.tmp 10) (.tmp 12) rfl rfl w0 base e.v1 e.p1 [.int .i64 tk, .int .u64 t0, .int .u64 t1, .int .u64 t2, .int .u64 t3, .slice tA tn tc, .int .i64 tlo, .int .i64 thi] w0.heap.size (by simp [Act.eval, Act.put]) (by simp [Act.eval, Act.put]) (pushAt rfl) (pushBelow rfl rfl rfl rfl) hrow1 hbb rfl (by simp [Value.oneCell']) hlen2 ?_; intro g c w9 hA9 _ _; obtain ⟨q1, q2⟩ := hA9.cell l1 fl1 hLne))
  all_goals
    obtain ⟨⟨own', e', h1, h2⟩, h3, h4⟩ := HFIN.out w9 g c hA9
    go_wp2
    go_end0
    exact ⟨rfl, own', e', h1, HR0.out.keep h3, h2, (hb0.mono hbase).trans h4⟩
end
end Go.Proofs.YtaohlmcgaggoeaaDoor.P
/- The machine's walks: close. -/
namespace Go.Proofs.YtaohlmcgaggoeaaDoor.P
open Go.RowKit Go.Proofs.YtaohlmcgaggoeaaDoor Go.Proofs.YtaohlmcgaggoeaaDoorW.PrintWords Go.Proofs.YtaohlmcgaggoeaaDoorW.PrintLast Go.Proofs.YtaohlmcgaggoeaaDoorW.PrintMore
set_option linter.unusedVariables false
set_option linter.unusedSimpArgs false
theorem row_cast {w : World} {base : Nat} {e : TypeId} {size n : Nat} {v : Value} {xs ys : List Value} (h : w.ownsRow base e size v n xs) (hx : xs = ys) : w.ownsRow base e size v n ys := by subst hx; exact h
/-- Eight cells written, one behind the other. -/
def set8 (w : World) (g o : Nat) (a0 a1 a2 a3 a4 a5 a6 a7 : Value) : World :=
  (((((((w.setCell ⟨g, o, none⟩ a0).setCell ⟨g, o + 1, none⟩ a1).setCell ⟨g, o + 2, none⟩ a2).setCell ⟨g, o + 3, none⟩ a3).setCell ⟨g, o + 4, none⟩ a4).setCell ⟨g, o + 5, none⟩ a5).setCell ⟨g, o + 6, none⟩ a6).setCell ⟨g, o + 7, none⟩ a7
theorem set8_far (w : World) (g o : Nat) (a0 a1 a2 a3 a4 a5 a6 a7 : Value) (k : Nat) (hk : k ≠ g) : (set8 w g o a0 a1 a2 a3 a4 a5 a6 a7).heap[k]? = w.heap[k]? := by
  unfold set8
  have f : ∀ (v : World) (j : Nat) (u : Value), (v.setCell ⟨g, j, none⟩ u).heap[k]? = v.heap[k]? := fun v j u => Below.heap_setCell v _ u k hk
  rw [f, f, f, f, f, f, f, f]
theorem set8_size (w : World) (g o : Nat) (a0 a1 a2 a3 a4 a5 a6 a7 : Value) : (set8 w g o a0 a1 a2 a3 a4 a5 a6 a7).heap.size = w.heap.size := by simp [set8, World.setCell]
theorem set8_below {B : Nat} {a w : World} (h : Below B a w) {g : Nat} (hg : B ≤ g) (o : Nat) (a0 a1 a2 a3 a4 a5 a6 a7 : Value) : Below B a (set8 w g o a0 a1 a2 a3 a4 a5 a6 a7) := by
  unfold set8
  exact (((((((h.setCell (p := ⟨g, o, none⟩) hg _).setCell (p := ⟨g, o + 1, none⟩) hg _).setCell (p := ⟨g, o + 2, none⟩) hg _).setCell (p := ⟨g, o + 3, none⟩) hg _).setCell (p := ⟨g, o + 4, none⟩) hg _).setCell (p := ⟨g, o + 5, none⟩) hg _).setCell (p := ⟨g, o + 6, none⟩) hg _).setCell (p := ⟨g, o + 7, none⟩) hg _
theorem set8_list (cs : List Value) (o : Nat) (ho : cs.length = o) (z0 z1 z2 z3 z4 z5 z6 z7 a0 a1 a2 a3 a4 a5 a6 a7 : Value) :
    ((((((((cs ++ [z0, z1, z2, z3, z4, z5, z6, z7]).set o a0).set (o + 1) a1).set (o + 2) a2).set (o + 3) a3).set (o + 4) a4).set (o + 5) a5).set (o + 6) a6).set (o + 7) a7 = cs ++ [a0, a1, a2, a3, a4, a5, a6, a7] := by
  subst ho
  have h : ∀ (zs : List Value) (j : Nat) (u : Value), (cs ++ zs).set (cs.length + j) u = cs ++ zs.set j u := fun zs j u => by rw [List.set_append_right _ _ (by omega), Nat.add_sub_cancel_left]
  have h0 : ∀ (zs : List Value) (u : Value), (cs ++ zs).set cs.length u = cs ++ zs.set 0 u := fun zs u => h zs 0 u
  rw [h0, h, h, h, h, h, h, h]
  rfl
theorem own8 {W : World} {base g n cp : Nat} {cs : List Value} {m o : Nat} {z0 z1 z2 z3 z4 z5 z6 z7 : Value} (h : W.ownsRow base 27 8 (.slice (some ⟨g, 0, none⟩) n cp) m (cs ++ [z0, z1, z2, z3, z4, z5, z6, z7])) (ho : cs.length = o) (a0 a1 a2 a3 a4 a5 a6 a7 : Value) :
    (set8 W g o a0 a1 a2 a3 a4 a5 a6 a7).ownsRow base 27 8 (.slice (some ⟨g, 0, none⟩) n cp) m (cs ++ [a0, a1, a2, a3, a4, a5, a6, a7]) := by
  rw [← set8_list cs o ho z0 z1 z2 z3 z4 z5 z6 z7 a0 a1 a2 a3 a4 a5 a6 a7]
  have hl : (cs ++ [z0, z1, z2, z3, z4, z5, z6, z7]).length = o + 8 := by rw [List.length_append, ho]; rfl
  unfold set8
  refine own_setc (own_setc (own_setc (own_setc (own_setc (own_setc (own_setc (own_setc h _ ?_ _) _ ?_ _) _ ?_ _) _ ?_ _) _ ?_ _) _ ?_ _) _ ?_ _) _ ?_ _
  all_goals
    (try simp only [List.length_set])
    omega
/-- The node's cells behind a row's. -/
theorem own8_cells {W : World} {base g n cp : Nat} {cs : List Value} {m o : Nat} {z0 z1 z2 z3 z4 z5 z6 z7 : Value} (h : W.ownsRow base 27 8 (.slice (some ⟨g, 0, none⟩) n cp) m (cs ++ [z0, z1, z2, z3, z4, z5, z6, z7])) (ho : cs.length = o) :
    (W.cell? ⟨g, o, none⟩ = some z0 ∧ W.cell? ⟨g, o + 1, none⟩ = some z1 ∧ W.cell? ⟨g, o + 2, none⟩ = some z2 ∧ W.cell? ⟨g, o + 3, none⟩ = some z3 ∧ W.cell? ⟨g, o + 4, none⟩ = some z4 ∧ W.cell? ⟨g, o + 5, none⟩ = some z5 ∧ W.cell? ⟨g, o + 6, none⟩ = some z6 ∧ W.cell? ⟨g, o + 7, none⟩ = some z7) ∧
      (∀ j, W.frozen? ⟨g, j, none⟩ = false) := by
  rcases h.2 with ⟨hv, _⟩ | ⟨g', cap, cur, hv, hb, hg, hn, hm, hs, ht⟩
  · cases hv
  · injection hv with h1 h2 h3
    injection h1 with h1
    injection h1 with h1 _ _
    subst h1
    have hc := h.cells (g := g) rfl
    have key : ∀ j u, [z0, z1, z2, z3, z4, z5, z6, z7][j]? = some u → W.cell? ⟨g, o + j, none⟩ = some u := fun j u hu => by
      have := hc (o + j) u (by rw [List.getElem?_append_right (by omega), ho, Nat.add_sub_cancel_left]; exact hu)
      rwa [Addr.add_lit, Nat.zero_add] at this
    exact ⟨⟨key 0 _ rfl, key 1 _ rfl, key 2 _ rfl, key 3 _ rfl, key 4 _ rfl, key 5 _ rfl, key 6 _ rfl, key 7 _ rfl⟩, fun j => blk_frozen hg j⟩
abbrev zero8 : List Value := [.int .i64 0, .int .u64 0, .int .u64 0, .int .u64 0, .int .u64 0, .slice none 0 0, .int .i64 0, .int .i64 0]
/-- Who owns what, behind a close. -/
def ownC (own : Own) (n g : Nat) : Own := fun k => if k = g then some (2 + 2 * n) else if own k = some (3 + 2 * n) then none else own k
/-- The row's blocks are free. -/
def ownF (own : Own) (n : Nat) : Own := fun k => if own k = some (3 + 2 * n) then none else own k
/-- one, told of blocks. -/
theorem one_p (kind : Int) (ok : Nat → Prop) (A : Option Addr) (c : Nat) (l : List T) (w : World) (hl : l.length ≤ c) (hF : Kd.F k27 w ok A l.length l) :
    Calls Tryd.prog 27 #[.int .i64 kind, .slice A l.length c] w fun e w' => ∃ q : Pn,
      e = .returned (.agg #[.int .i64 q.t.f0, .int .u64 q.t.f1.f0, .int .u64 q.t.f1.f1, .int .u64 q.t.f1.f2, .int .u64 q.t.f1.f3, .slice q.A q.t.f2.length q.c, .int .i64 q.t.f3, .int .i64 q.t.f4]) ∧ Below w.heap.size w w' ∧
      q.t = oneN kind l ∧ q.t.f2.length ≤ q.c ∧ Kd.F k27 w' (fun k => ok k ∨ w.heap.size ≤ k) q.A q.t.f2.length q.t.f2 := by
  refine (syntax_one.calls kind ok A c l _ _ _ _ _ _ _ _ w (Kd.V_mk hl hF) (one_f kind l)).mono fun e w' h => ?_
  obtain ⟨v, he, ⟨A', c', hv, hle, hf⟩, hb⟩ := h
  subst hv
  exact ⟨⟨oneN kind l, A', c'⟩, he, hb, rfl, hle, hf⟩
/-- The world of close's first statement, once these operations are done. -/
structure CW (b8 b10 b11 b13 b16 : Prop) (w W : World) (base L n : Nat) (own : Own) (v0 : Value) (p0 : List Pn) (row : List T) (q : Pn) (B g cc : Nat) : Prop where
  size : w.heap.size ≤ W.heap.size
  bel : Below base w W
  old : ∀ k, k < w.heap.size → v0.ownBlock ≠ some k → k ≠ L → W.heap[k]? = w.heap[k]?
  l0 : ¬ b16 → W.heap[L]? = w.heap[L]?
  l1 : b16 → W.heap[L]? = (w.setCell ⟨L, n * 2, none⟩ (.slice (some ⟨g, 0, none⟩) (p0.length + 1) cc)).heap[L]?
  r0 : ¬ b11 → ∀ k, v0.ownBlock = some k → W.heap[k]? = w.heap[k]?
  r1 : b11 → ¬ b13 → W.ownsRow base 27 8 (.slice (some ⟨g, 0, none⟩) (p0.length + 1) cc) (p0.length + 1) (ncs p0 ++ zero8)
  r2 : b13 → W.ownsRow base 27 8 (.slice (some ⟨g, 0, none⟩) (p0.length + 1) cc) (p0.length + 1) (ncs p0 ++ q.cells)
  at_ : b11 → v0.ownBlock = some g ∨ w.heap.size ≤ g
  lit : b10 → ¬ b11 → W.heap[B]? = some (.cells zero8.toArray 27 (0, 0))
  nd : b8 → q.t = oneN 2 row ∧ q.t.f2.length ≤ q.c ∧ Kd.F k27 W (fun k => ownF own n k = none ∧ (b11 → k ≠ g)) q.A q.t.f2.length q.t.f2
  e11 : b11 → b10
  e13 : b13 → b8 ∧ b11
  e16 : b16 → b11
/-- What holds of the old world. -/
structure CO (w : World) (base R L n : Nat) (own : Own) (v0 : Value) (p0 : List Pn) : Prop where
  base_ : base ≤ w.heap.size
  L1 : base ≤ L
  L2 : L < w.heap.size
  L3 : own L = some 1
  row : w.ownsRow base 27 8 v0 p0.length (ncs p0)
  tag : ∀ k, v0.ownBlock = some k → own k = some (2 + 2 * n)
  new : ∀ k, w.heap.size ≤ k → own k = none
  len : p0.length ≤ 1000
section
variable {b8 b10 b11 b13 b16 : Prop} {w W W' : World} {base R L n B g cc g' cc' : Nat} {own : Own} {v0 : Value} {p0 : List Pn} {row : List T} {q q' : Pn}
theorem CO.vL (h : CO w base R L n own v0 p0) : v0.ownBlock ≠ some L := fun e => by
  have := h.tag L e
  rw [h.L3] at this
  injection this with this
  omega
theorem CO.fne (h : CO w base R L n own v0 p0) {k : Nat} (hk : ownF own n k = none) : v0.ownBlock ≠ some k ∧ k ≠ L := by
  unfold ownF at hk
  refine ⟨fun e => ?_, fun e => ?_⟩
  · rw [h.tag k e, if_neg (by intro h; injection h with h; omega)] at hk; cases hk
  · rw [e, h.L3, if_neg (by intro h; injection h with h; omega)] at hk; cases hk
theorem CO.fnew (h : CO w base R L n own v0 p0) {k : Nat} (hk : w.heap.size ≤ k) : ownF own n k = none := by unfold ownF; rw [h.new k hk]; simp
theorem CW.start (h : CO w base R L n own v0 p0) : CW False False False False False w w.drew base L n own v0 p0 row q B g cc :=
  ⟨Nat.le_refl _, (Below.refl _ _).drew, fun _ _ _ _ => rfl, fun _ => rfl, fun h => h.elim, fun _ _ _ => rfl, fun h => h.elim, fun h => h.elim, fun h => h.elim, fun h => h.elim, fun h => h.elim, fun h => h.elim, fun h => h.elim, fun h => h.elim⟩
/-- The row's tree. -/
theorem CW.rowF (h : CW b8 b10 b11 b13 b16 w W base L n own v0 p0 row q B g cc) (c : CO w base R L n own v0 p0) {A : Option Addr} (hF : Kd.F k27 w (okO (ownF own n)) A row.length row) : Kd.F k27 W (fun k => ownF own n k = none ∧ (b11 → k ≠ g)) A row.length row := by
  refine Kd.F_mono (Kd.F_step (Kd.F_bound hF) (fun k hk hl => h.old k hl (c.fne hk.1).1 (c.fne hk.1).2)) fun k hk => ⟨hk.1, fun h11 e => ?_⟩
  subst e
  rcases h.at_ h11 with h1 | h1
  · exact (c.fne hk.1).1 h1
  · have := hk.2; omega
theorem CW.gne (h : CW b8 b10 b11 b13 b16 w W base L n own v0 p0 row q B g cc) (c : CO w base R L n own v0 p0) (h11 : b11) : L ≠ g := fun e => by
  subst e
  rcases h.at_ h11 with h1 | h1
  · exact c.vL h1
  · have := c.L2; omega
theorem CW.below (h : CW b8 b10 b11 b13 b16 w W base L n own v0 p0 row q B g cc) (c : CO w base R L n own v0 p0) (hb : Below W.heap.size W W') : CW b8 b10 b11 b13 b16 w W' base L n own v0 p0 row q B g cc := by
  have hsz := h.size
  refine ⟨Nat.le_trans h.size hb.size, h.bel.trans (hb.mono (Nat.le_trans c.base_ hsz)), fun k hk h1 h2 => (hb.block k (by omega)).trans (h.old k hk h1 h2), fun h1 => (hb.block L (by have := c.L2; omega)).trans (h.l0 h1), fun h1 => (hb.block L (by have := c.L2; omega)).trans (h.l1 h1),
    fun h1 k hk => (hb.block k (by have := (c.row.lt k hk).2; omega)).trans (h.r0 h1 k hk), fun h1 h2 => ?_, fun h1 => ?_, h.at_, fun h1 h2 => ?_, fun h1 => ?_, h.e11, h.e13, h.e16⟩
  · exact own_move (h.r1 h1 h2) fun k hk => hb.block k ((h.r1 h1 h2).lt k hk).2
  · exact own_move (h.r2 h1) fun k hk => hb.block k ((h.r2 h1).lt k hk).2
  · have := h.lit h1 h2
    exact (hb.block B (blk_lt this)).trans this
  · obtain ⟨a, b, d⟩ := h.nd h1
    exact ⟨a, b, Kd.F_below d hb⟩
theorem CW.one (h : CW b8 b10 b11 b13 b16 w W base L n own v0 p0 row q B g cc) (c : CO w base R L n own v0 p0) (h8 : ¬ b8) (hb : Below W.heap.size W W') (h1 : q'.t = oneN 2 row) (h2 : q'.t.f2.length ≤ q'.c) (hF : Kd.F k27 W' (fun k => (ownF own n k = none ∧ (b11 → k ≠ g)) ∨ W.heap.size ≤ k) q'.A q'.t.f2.length q'.t.f2) :
    CW True b10 b11 b13 b16 w W' base L n own v0 p0 row q' B g cc := by
  have hW := h.below c hb
  have h13 : ¬ b13 := fun e => h8 (h.e13 e).1
  refine ⟨hW.size, hW.bel, hW.old, hW.l0, hW.l1, hW.r0, hW.r1, fun e => absurd e h13, hW.at_, hW.lit, fun _ => ⟨h1, h2, Kd.F_mono hF fun k hk => ?_⟩, hW.e11, fun e => absurd e h13, hW.e16⟩
  rcases hk with hk | hk
  · exact hk
  · have := h.size
    refine ⟨c.fnew (by omega), fun h11 e => ?_⟩
    have := ((h.r1 h11 h13).lt g rfl).2
    omega
theorem CW.new (h : CW b8 b10 b11 b13 b16 w W base L n own v0 p0 row q B g cc) (c : CO w base R L n own v0 p0) (h10 : ¬ b10) : CW b8 True b11 b13 b16 w (W.alloc (.cells zero8.toArray 27)) base L n own v0 p0 row q W.heap.size g cc := by
  have hW := h.below c (box_belowS W (.cells zero8.toArray 27))
  have h11 : ¬ b11 := fun e => h10 (h.e11 e)
  exact ⟨hW.size, hW.bel, hW.old, hW.l0, hW.l1, hW.r0, hW.r1, hW.r2, hW.at_, fun _ _ => heap_alloc_new W _, hW.nd, fun _ => trivial, hW.e13, hW.e16⟩
theorem CW.app (h : CW b8 b10 b11 b13 b16 w W base L n own v0 p0 row q B g cc) (c : CO w base R L n own v0 p0) (h10 : b10) (h11 : ¬ b11) :
    ∃ g' cc' W', (AppS #[25, 25] 25 #[v0, .slice (some ⟨B, 0, none⟩) 1 1]).run Tryd.prog W = .ok (.slice (some ⟨g', 0, none⟩) (p0.length + 1) cc') W' ∧ CW b8 b10 True b13 b16 w W' base L n own v0 p0 row q B g' cc' := by
  have h13 : ¬ b13 := fun e => h11 (h.e13 e).2
  have h16 : ¬ b16 := fun e => h11 (h.e16 e)
  have hrow : W.ownsRow base 27 8 v0 p0.length (ncs p0) := own_move c.row (h.r0 h11)
  have hsz := h.size
  have hlen := c.len
  have hbase := c.base_
  obtain ⟨g', cc', W', hr, h2, h3, h4⟩ := app_node W base v0 p0 hrow (by omega) B zero8 rfl (by decide) (h.lit h10 h11) (by omega)
  have hLW : L < W.heap.size := by have := c.L2; omega
  refine ⟨g', cc', W', hr, Nat.le_trans hsz h3.size, ?_, fun k hk h5 h6 => (h3.block k (by omega) (fun e => h5 e.symm)).trans (h.old k hk h5 h6), fun _ => (h3.block L hLW (fun e => c.vL e.symm)).trans (h.l0 h16), fun e => absurd e h16,
    fun e => absurd trivial e, fun _ _ => h2, fun e => absurd e h13, fun _ => ?_, fun _ e => absurd trivial e, fun e => ?_, fun _ => h10, fun e => ⟨(h.e13 e).1, trivial⟩, fun _ => trivial⟩
  · exact h.bel.grown h3 (by omega) (fun k hk => (c.row.lt k hk).1)
  · rcases h4 with h4 | h4
    · exact .inl h4
    · exact .inr (by omega)
  · obtain ⟨a, b, d⟩ := h.nd e
    refine ⟨a, b, Kd.F_mono (Kd.F_step (Kd.F_bound d) (fun k hk hl => h3.block k hl (fun e => (c.fne hk.1.1).1 e.symm))) fun k hk => ⟨hk.1.1, fun _ e => ?_⟩⟩
    subst e
    rcases h4 with h4 | h4
    · exact (c.fne hk.1.1).1 h4
    · have := hk.2; omega
theorem CW.node (h : CW b8 b10 b11 b13 b16 w W base L n own v0 p0 row q B g cc) (c : CO w base R L n own v0 p0) (h8 : b8) (h11 : b11) (h13 : ¬ b13) :
    CW b8 b10 b11 True b16 w (set8 W g (p0.length * 8) (.int .i64 q.t.f0) (.int .u64 q.t.f1.f0) (.int .u64 q.t.f1.f1) (.int .u64 q.t.f1.f2) (.int .u64 q.t.f1.f3) (.slice q.A q.t.f2.length q.c) (.int .i64 q.t.f3) (.int .i64 q.t.f4)) base L n own v0 p0 row q B g cc := by
  have hr := h.r1 h11 h13
  have hgL := h.gne c h11
  have far := fun k (hk : k ≠ g) => set8_far W g (p0.length * 8) (.int .i64 q.t.f0) (.int .u64 q.t.f1.f0) (.int .u64 q.t.f1.f1) (.int .u64 q.t.f1.f2) (.int .u64 q.t.f1.f3) (.slice q.A q.t.f2.length q.c) (.int .i64 q.t.f3) (.int .i64 q.t.f4) k hk
  have hold : ∀ k, k < w.heap.size → v0.ownBlock ≠ some k → k ≠ g := fun k hk hv e => by
    subst e
    rcases h.at_ h11 with h1 | h1
    · exact hv h1
    · omega
  refine ⟨by rw [set8_size]; exact h.size, set8_below h.bel (hr.lt g rfl).1 _ _ _ _ _ _ _ _ _, fun k hk h1 h2 => (far k (hold k hk h1)).trans (h.old k hk h1 h2), fun h1 => (far L hgL).trans (h.l0 h1), fun h1 => (far L hgL).trans (h.l1 h1), fun e => absurd h11 e, fun _ e => absurd trivial e,
    fun _ => own8 hr (ncs_length _) _ _ _ _ _ _ _ _, h.at_, fun _ e => absurd h11 e, fun e => ?_, h.e11, fun _ => ⟨h8, h11⟩, h.e16⟩
  obtain ⟨a, b, d⟩ := h.nd e
  exact ⟨a, b, Kd.F_step d fun k hk _ => far k (hk.2 h11)⟩
theorem CW.lst (h : CW b8 b10 b11 b13 b16 w W base L n own v0 p0 row q B g cc) (c : CO w base R L n own v0 p0) (h11 : b11) (h16 : ¬ b16) :
    CW b8 b10 b11 b13 True w (W.setCell ⟨L, n * 2, none⟩ (.slice (some ⟨g, 0, none⟩) (p0.length + 1) cc)) base L n own v0 p0 row q B g cc := by
  have hgL := h.gne c h11
  have far : ∀ k, k ≠ L → (W.setCell ⟨L, n * 2, none⟩ (.slice (some ⟨g, 0, none⟩) (p0.length + 1) cc)).heap[k]? = W.heap[k]? := fun k hk => Below.heap_setCell _ _ _ _ hk
  refine ⟨by have := h.size; simpa [World.setCell] using this, h.bel.setCell (p := ⟨L, n * 2, none⟩) c.L1 _, fun k hk h1 h2 => (far k h2).trans (h.old k hk h1 h2), fun e => absurd trivial e, fun _ => ?_, fun e => absurd h11 e, fun h1 h2 => ?_, fun h1 => ?_, h.at_, fun _ e => absurd h11 e, fun e => ?_, h.e11, h.e13, fun _ => h11⟩
  · have := h.l0 h16
    unfold World.setCell
    simp only [Array.getElem?_modify, if_pos, this]
  · exact own_move (h.r1 h1 h2) fun k hk => far k (by have : g = k := by injection hk
                                                      omega)
  · exact own_move (h.r2 h1) fun k hk => far k (by have : g = k := by injection hk
                                                   omega)
  · obtain ⟨a, b, d⟩ := h.nd e
    exact ⟨a, b, Kd.F_step d fun k hk _ => far k (c.fne hk.1).2⟩
end
/-- The top level is turned, and the row of levels with it. -/
theorem LvI.upd2 {w w2 : World} {base R : Nat} {lv : Value} {own own1 : Own} {pre : List LvE} {e e' : LvE} (h : LvI w base R lv own (pre ++ [e])) (k : Keeps w w2 own own1)
    (hs : ∀ i, i < w.heap.size → ∀ t, own i = some t → t ≠ 1 → t ≠ 2 + 2 * pre.length → t ≠ 3 + 2 * pre.length → w2.heap[i]? = w.heap[i]? ∧ own1 i = some t) (hR : own1 R = some 0) (hn : ∀ k, w2.heap.size ≤ k → own1 k = none) (hl : ∀ k, lv.ownBlock = some k → own1 k = some 1)
    (r0 : Rw w2 base own1 (2 + 2 * pre.length) e'.v0 e'.lv.rows e'.p0) (r1 : Rw w2 base own1 (3 + 2 * pre.length) e'.v1 e'.lv.row e'.p1) (hrow : w2.ownsRow base 53 2 lv (pre.length + 1) (lcs (pre ++ [e']))) : LvI w2 base R lv own1 (pre ++ [e']) := by
  refine ⟨hR, by simpa using hrow, hl, hn, fun i hi => ?_, fun i hi => ⟨Nat.lt_of_lt_of_le (h.low i hi).1 k.size, (hs i (h.low i hi).1 0 (h.low i hi).2 (by omega) (by omega) (by omega)).2⟩⟩
  by_cases hip : i < pre.length
  · obtain ⟨a, b⟩ := h.el i (by simp; omega)
    simp only [List.getElem_append_left hip] at a b ⊢
    exact ⟨a.keep k (fun j hj ho => (hs j hj _ ho (by omega) (by omega) (by omega)).1) (fun j hj ho => (hs j hj _ ho (by omega) (by omega) (by omega)).2),
      b.keep k (fun j hj ho => (hs j hj _ ho (by omega) (by omega) (by omega)).1) (fun j hj ho => (hs j hj _ ho (by omega) (by omega) (by omega)).2)⟩
  · have : i = pre.length := by simp at hi; omega
    subst this
    simp only [List.getElem_append_right (Nat.le_refl _), Nat.sub_self, List.getElem_cons_zero]
    exact ⟨r0, r1⟩
theorem close_fin {w W : World} {base R L B g cc cap : Nat} {lv v0 : Value} {own : Own} {pre : List LvE} {e : LvE} {q : Pn} {p0 : List Pn} {row : List T} (hL : LvI w base R lv own (pre ++ [e])) (hRl : R < w.heap.size)
    (h : CW True True True True True w W base L pre.length own v0 p0 row q B g cc) (c : CO w base R L pre.length own v0 p0) (he0 : e.v0 = v0) (he1 : e.lv.row = row) (hep : e.p0 = p0) (hlv : lv = .slice (some ⟨L, 0, none⟩) (pre.length + 1) cap) :
    (∃ own' e', e'.lv = e.lv.close ∧ LvI (W.setCell ⟨L, pre.length * 2 + 1, none⟩ (.slice none 0 0)) base R lv own' (pre ++ [e'])) ∧ (W.setCell ⟨L, pre.length * 2 + 1, none⟩ (.slice none 0 0)).heap[R]? = w.heap[R]? ∧ Below base w (W.setCell ⟨L, pre.length * 2 + 1, none⟩ (.slice none 0 0)) := by
  subst he0 he1 hep
  obtain ⟨rw0, rw1⟩ := hL.top
  obtain ⟨W3, hW3⟩ : ∃ W3, W3 = W.setCell ⟨L, pre.length * 2 + 1, none⟩ (.slice none 0 0) := ⟨_, rfl⟩
  rw [← hW3]
  have far : ∀ k, k ≠ L → W3.heap[k]? = W.heap[k]? := fun k hk => by rw [hW3]; exact Below.heap_setCell _ _ _ _ hk
  have sz3 : W3.heap.size = W.heap.size := by rw [hW3]; simp [World.setCell]
  have hsz := h.size
  have hg9 := (h.r2 trivial).lt g rfl
  have hgL := h.gne c trivial
  have hRL : R ≠ L := fun e2 => by have := hL.reg; rw [e2, c.L3] at this; cases this
  have gne : ∀ k, k < w.heap.size → e.v0.ownBlock ≠ some k → k ≠ g := fun k hk hv e2 => by
    subst e2
    rcases h.at_ trivial with h1 | h1
    · exact hv h1
    · omega
  have tv : ∀ k t, own k = some t → t ≠ 2 + 2 * pre.length → e.v0.ownBlock ≠ some k := fun k t ht hne hv => by
    have := c.tag k hv
    rw [ht] at this
    injection this with this
    exact hne this
  have nv : ∀ k, own k = none → e.v0.ownBlock ≠ some k := fun k ht hv => by rw [c.tag k hv] at ht; cases ht
  have nL : ∀ k, own k = none → k ≠ L := fun k ht e2 => by rw [e2, c.L3] at ht; cases ht
  have ownCg : ownC own pre.length g g = some (2 + 2 * pre.length) := if_pos rfl
  have ownCn : ∀ k, k ≠ g → own k ≠ some (3 + 2 * pre.length) → ownC own pre.length g k = own k := fun k h1 h2 => by unfold ownC; rw [if_neg h1, if_neg h2]
  have kp : Keeps w W3 own (ownC own pre.length g) := ⟨by omega, fun k hk ho => (far k (nL k ho)).trans (h.old k hk (nv k ho) (nL k ho)), fun k hk ho => (ownCn k (gne k hk (nv k ho)) (by rw [ho]; simp)).trans ho⟩
  obtain ⟨q1, q2, q3⟩ := h.nd trivial
  have hRv : e.v0.ownBlock ≠ some R := tv R 0 hL.reg (by omega)
  refine ⟨⟨ownC own pre.length g, ⟨.slice (some ⟨g, 0, none⟩) (e.p0.length + 1) cc, .slice none 0 0, e.lv.close, e.p0 ++ [q], []⟩, rfl, ?_⟩, ?_, ?_⟩
  · refine hL.upd2 kp (fun i hi t ht h1 h2 h3 => ?_) ?_ (fun k hk => ?_) (fun k hk => ?_) ?_ (Rw.nil _ _ _ _) ?_
    · have hiL : i ≠ L := fun e2 => by rw [e2, c.L3] at ht; injection ht with ht; omega
      have hiv := tv i t ht h2
      exact ⟨(far i hiL).trans (h.old i hi hiv hiL), (ownCn i (gne i hi hiv) (by rw [ht]; intro h; injection h with h; omega)).trans ht⟩
    · rw [ownCn R (gne R hRl hRv) (by rw [hL.reg]; intro h; injection h with h; omega)]; exact hL.reg
    · have h0 := hL.new k (by omega)
      rw [ownCn k (by omega) (by rw [h0]; simp)]; exact h0
    · rw [hlv] at hk
      have : L = k := by injection hk
      subst this
      rw [ownCn L hgL (by rw [c.L3]; intro h; injection h with h; omega)]; exact c.L3
    · refine ⟨by rw [List.map_append, rw0.ts]; show _ = e.lv.rows ++ [oneN 2 e.lv.row]; rw [← q1]; rfl, fun p hp => ?_, ?_, fun k hk => ?_⟩
      · rcases List.mem_append.1 hp with hh | hh
        · exact (rw0.nd p hh).keep kp
        · rw [List.mem_singleton.1 hh]
          refine ⟨Kd.F_mono (Kd.F_step q3 fun k hk _ => far k (c.fne hk.1).2) fun k hk => ?_, q2⟩
          unfold okO ownC
          rw [if_neg (hk.2 trivial)]
          exact hk.1
      · rw [ncs_append, ncs_one, List.length_append]
        exact own_move (h.r2 trivial) fun k hk => far k (by have : g = k := by injection hk
                                                            omega)
      · have : g = k := by injection hk
        subst this
        exact ownCg
    · have hr9 := hL.row
      rw [hlv] at hr9 ⊢
      have h1 := own_setc hr9 (pre.length * 2) (by rw [lcs_length]; simp) (.slice (some ⟨g, 0, none⟩) (e.p0.length + 1) cc)
      rw [lcs_set0] at h1
      have h1' : W.ownsRow base 53 2 (.slice (some ⟨L, 0, none⟩) (pre.length + 1) cap) (pre ++ [e]).length (lcs (pre ++ [{ e with v0 := .slice (some ⟨g, 0, none⟩) (e.p0.length + 1) cc }])) := own_move h1 fun k hk => by
        have : L = k := by injection hk
        subst this
        exact h.l1 trivial
      have h2 := own_setc h1' (pre.length * 2 + 1) (by rw [lcs_length]; simp; omega) (.slice none 0 0)
      rw [lcs_set1] at h2
      have hlc : ∀ A B : LvE, A.v0 = B.v0 → A.v1 = B.v1 → lcs (pre ++ [A]) = lcs (pre ++ [B]) := fun A B a b => by rw [lcs_append, lcs_append, lcs_one, lcs_one, a, b]
      have h3 : (pre ++ [e]).length = pre.length + 1 := by simp
      rw [h3] at h2
      rw [hW3]
      exact row_cast h2 (hlc _ _ rfl rfl)
  · exact (far R hRL).trans (h.old R hRl hRv hRL)
  · rw [hW3]
    exact h.bel.setCell (p := ⟨L, pre.length * 2 + 1, none⟩) c.L1 _
end Go.Proofs.YtaohlmcgaggoeaaDoor.P
/- A region that draws its order, walked by an invariant: what holds once these operations are done. No program in sight. -/
namespace Go.Proofs.YtaohlmcgaggoeaaDoor
open Go.RowKit
/-! #### a region that draws its order, by what holds of the operations that are done -/
theorem cnt_set (L : Array Bool) (i : Nat) (hi : L.getD i true = false) : ∀ n, i < n → cnt (fun j => !(L.setIfInBounds i true).getD j true) n + 1 = cnt (fun j => !L.getD j true) n
  | 0, h => by omega
  | n + 1, h => by
    have hs : i < L.size := by
      rcases Nat.lt_or_ge i L.size with h' | h'
      · exact h'
      · rw [Array.getD_eq_getD_getElem?, Array.getElem?_eq_none h'] at hi; cases hi
    rw [cnt, cnt]
    by_cases e : i = n
    · subst e
      have h1 : cnt (fun j => !(L.setIfInBounds i true).getD j true) i = cnt (fun j => !L.getD j true) i := cnt_congr i fun j hj => by
        have hne : ¬ i = j := by omega
        simp only [Array.getD_eq_getD_getElem?, Array.getElem?_setIfInBounds, if_neg hne]
      rw [h1]
      simp only [Array.getD_eq_getD_getElem?, Array.getElem?_setIfInBounds] at hi ⊢
      rw [Array.getElem?_eq_getElem hs] at hi
      have hi' : L[i] = false := hi
      simp [hs, hi']
    · have := cnt_set L i hi n (by omega)
      have h2 : (L.setIfInBounds i true).getD n true = L.getD n true := by simp only [Array.getD_eq_getD_getElem?, Array.getElem?_setIfInBounds, if_neg e]
      rw [h2]
      omega
theorem wpAny_inv {P : Program} {ops : Array Oper} {Q : Exit → Act → World → Prop} (I : Array Bool → Act → World → Prop)
    (step : ∀ L a w i, I L a w → i ∈ Region.ready .any ops L → wpOp P ops Q i (fun a' w' => I (L.setIfInBounds i true) a' w') a w)
    (done : ∀ L a w, I L a w → Region.ready .any ops L = [] → Q .normal a w) :
    ∀ (fuel : Nat) (L : Array Bool) (a : Act) (w : World), cnt (fun j => !L.getD j true) ops.size ≤ fuel → I L a w → wpAny P .any ops Q fuel L a w
  | 0, L, a, w, hc, h => by
    have hn : Region.ready .any ops L = [] := by
      cases hr : Region.ready .any ops L with
      | nil => rfl
      | cons i r =>
        have hi : i ∈ Region.ready .any ops L := by rw [hr]; simp
        obtain ⟨h1, o, h2, _⟩ := mem_ready.1 hi
        have hlt := (Array.getElem?_eq_some_iff.1 h2).1
        have := cnt_set L i h1 ops.size hlt
        omega
    exact ⟨hn, done L a w h hn⟩
  | fuel + 1, L, a, w, hc, h => by
    refine ⟨fun hn => done L a w h hn, fun i hi => ?_⟩
    obtain ⟨h1, o, h2, _⟩ := mem_ready.1 hi
    have hlt := (Array.getElem?_eq_some_iff.1 h2).1
    have hcs := cnt_set L i h1 ops.size hlt
    exact wpOp_mono (fun a' w' h' => wpAny_inv I step done fuel _ a' w' (by omega) h') (step L a w i h hi)
theorem wp_region_inv {P : Program} {id : Nat} {ops : Array Oper} {Q : Exit → Act → World → Prop} {a : Act} {w : World} (I : Array Bool → Act → World → Prop) (hm : P.follows .mixedOrders = true)
    (h0 : I (Array.replicate ops.size false) a w.drew)
    (step : ∀ L a w i, I L a w → i ∈ Region.ready .any ops L → wpOp P ops Q i (fun a' w' => I (L.setIfInBounds i true) a' w') a w)
    (done : ∀ L a w, I L a w → Region.ready .any ops L = [] → Q .normal a w) : (Code.region id ops true).wp P Q a w :=
  wp_region_any hm (wpAny_inv I step done _ _ _ _ (cnt_le _ _) h0)
end Go.Proofs.YtaohlmcgaggoeaaDoor
/- The machine's walks: close's first statement, by an invariant. Written by wip/gen_close.py. -/
namespace Go.Proofs.YtaohlmcgaggoeaaDoor.P
open Go.RowKit Go.Proofs.YtaohlmcgaggoeaaDoor Go.Proofs.YtaohlmcgaggoeaaDoorW.PrintWords Go.Proofs.YtaohlmcgaggoeaaDoorW.PrintLast Go.Proofs.YtaohlmcgaggoeaaDoorW.PrintMore
set_option linter.unusedVariables false
set_option linter.unusedSimpArgs false
/-- Operation j is done. -/
def Ls (L : Array Bool) (j : Nat) : Prop := L.getD j false = true
theorem getD_set_iff {L : Array Bool} {i j : Nat} (hi : i < L.size) : (L.setIfInBounds i true).getD j false = true ↔ (L.getD j false = true ∨ j = i) := by
  simp only [Array.getD_eq_getD_getElem?, Array.getElem?_setIfInBounds]
  by_cases e : i = j
  · subst e; simp [hi]
  · simp [e, Ne.symm (fun h => e h)]
theorem wpOp_at {P : Program} {ops : Array Oper} {Q : Exit → Act → World → Prop} {i : Nat} {o : Oper} {K : Act → World → Prop} {a : Act} {w : World} (h : ops[i]? = some o) (hg : o.guard = none) (hk : o.wp P a w K Q) : wpOp P ops Q i K a w := by
  unfold wpOp
  rw [h]
  dsimp only
  rw [if_pos (by simp [Region.wanted, hg])]
  exact .inl hk
/-- Every operation waits for earlier ones alone: none is ready, so all are done. -/
theorem all_done {ops : Array Oper} {L : Array Bool} (hL : L.size = ops.size) (hord : ((List.range ops.size).all fun j => match ops[j]? with | some o => o.after.all fun e => !Region.binds .any e || decide (e.on < j) | none => true) = true)
    (hr : Region.ready .any ops L = []) : ∀ n j, j < n → j < ops.size → L.getD j false = true
  | 0, j, h, _ => by omega
  | n + 1, j, h, hj => by
    have ih := all_done hL hord hr n
    cases hv : L.getD j false with
    | true => rfl
    | false =>
      exfalso
      have hm : j ∈ Region.ready .any ops L := mem_ready.2 ⟨by
        have hs : j < L.size := by omega
        simp only [Array.getD_eq_getD_getElem?, Array.getElem?_eq_getElem hs] at hv ⊢
        exact hv, ops[j], Array.getElem?_eq_getElem hj, fun e he hbd => by
          rw [List.all_eq_true] at hord
          have h1 := hord j (List.mem_range.2 hj)
          rw [Array.getElem?_eq_getElem hj] at h1
          have h2 := (Array.all_eq_true'.1 h1) e he
          rw [hbd, Bool.not_true, Bool.false_or] at h2
          have h2 := of_decide_eq_true h2
          exact ih e.on (by omega) (by omega)⟩
      rw [hr] at hm
      cases hm
/-- What the slots hold, once these operations are done. -/
structure SL (b : Nat → Prop) (L n : Nat) (p0 : List Pn) (A0 A : Option Addr) (cc0 c : Nat) (row : List T) (q : Pn) (B g cc : Nat) (s2 s3 s4 s5 s6 s7 s8 s9 s10 s11 s12 s13 s14 s15 s16 : Value) : Prop where
  h0 : b 0 → s2 = .pointer (some ⟨L, n * 2, none⟩)
  h1 : b 1 → s3 = .pointer (some ⟨L, n * 2, none⟩)
  h2 : b 2 → s4 = .pointer (some ⟨L, n * 2, none⟩)
  h3 : b 3 → s5 = .slice A0 p0.length cc0
  h4 : b 4 → s6 = .pointer (some ⟨L, n * 2, none⟩)
  h5 : b 5 → s7 = .pointer (some ⟨L, n * 2, none⟩)
  h6 : b 6 → s8 = .pointer (some ⟨L, n * 2 + 1, none⟩)
  h7 : b 7 → s9 = .slice A row.length c
  h8 : b 8 → s10 = .agg #[.int .i64 q.t.f0, .int .u64 q.t.f1.f0, .int .u64 q.t.f1.f1, .int .u64 q.t.f1.f2, .int .u64 q.t.f1.f3, .slice q.A q.t.f2.length q.c, .int .i64 q.t.f3, .int .i64 q.t.f4]
  h9 : b 9 → s11 = .int .i64 (p0.length : Int)
  h10 : b 10 → s12 = .slice (some ⟨B, 0, none⟩) 1 1
  h11 : b 11 → s13 = .slice (some ⟨g, 0, none⟩) (p0.length + 1) cc
  h12 : b 12 → s14 = .pointer (some ⟨g, p0.length * 8, none⟩)
  h14 : b 14 → s15 = .pointer (some ⟨L, n * 2, none⟩)
  h15 : b 15 → s16 = .pointer (some ⟨L, n * 2, none⟩)
  e12 : b 12 → b 11
  e3 : b 11 → b 3
section
variable {b : Nat → Prop} {L n : Nat} {p0 : List Pn} {A0 A : Option Addr} {cc0 c : Nat} {row : List T} {q : Pn} {B g cc : Nat} {s2 s3 s4 s5 s6 s7 s8 s9 s10 s11 s12 s13 s14 s15 s16 : Value}
theorem SL.v0 (h : SL b L n p0 A0 A cc0 c row q B g cc s2 s3 s4 s5 s6 s7 s8 s9 s10 s11 s12 s13 s14 s15 s16) : SL (fun j => b j ∨ j = 0) L n p0 A0 A cc0 c row q B g cc (.pointer (some ⟨L, n * 2, none⟩)) s3 s4 s5 s6 s7 s8 s9 s10 s11 s12 s13 s14 s15 s16 :=
  ⟨fun _ => rfl, fun z => h.h1 (z.resolve_right (by decide)), fun z => h.h2 (z.resolve_right (by decide)), fun z => h.h3 (z.resolve_right (by decide)), fun z => h.h4 (z.resolve_right (by decide)), fun z => h.h5 (z.resolve_right (by decide)), fun z => h.h6 (z.resolve_right (by decide)), fun z => h.h7 (z.resolve_right (by decide)), fun z => h.h8 (z.resolve_right (by decide)), fun z => h.h9 (z.resolve_right (by decide)), fun z => h.h10 (z.resolve_right (by decide)), fun z => h.h11 (z.resolve_right (by decide)), fun z => h.h12 (z.resolve_right (by decide)), fun z => h.h14 (z.resolve_right (by decide)), fun z => h.h15 (z.resolve_right (by decide)), fun z => .inl (h.e12 (z.resolve_right (by decide))), fun z => .inl (h.e3 (z.resolve_right (by decide)))⟩
theorem SL.v1 (h : SL b L n p0 A0 A cc0 c row q B g cc s2 s3 s4 s5 s6 s7 s8 s9 s10 s11 s12 s13 s14 s15 s16) : SL (fun j => b j ∨ j = 1) L n p0 A0 A cc0 c row q B g cc s2 (.pointer (some ⟨L, n * 2, none⟩)) s4 s5 s6 s7 s8 s9 s10 s11 s12 s13 s14 s15 s16 :=
  ⟨fun z => h.h0 (z.resolve_right (by decide)), fun _ => rfl, fun z => h.h2 (z.resolve_right (by decide)), fun z => h.h3 (z.resolve_right (by decide)), fun z => h.h4 (z.resolve_right (by decide)), fun z => h.h5 (z.resolve_right (by decide)), fun z => h.h6 (z.resolve_right (by decide)), fun z => h.h7 (z.resolve_right (by decide)), fun z => h.h8 (z.resolve_right (by decide)), fun z => h.h9 (z.resolve_right (by decide)), fun z => h.h10 (z.resolve_right (by decide)), fun z => h.h11 (z.resolve_right (by decide)), fun z => h.h12 (z.resolve_right (by decide)), fun z => h.h14 (z.resolve_right (by decide)), fun z => h.h15 (z.resolve_right (by decide)), fun z => .inl (h.e12 (z.resolve_right (by decide))), fun z => .inl (h.e3 (z.resolve_right (by decide)))⟩
theorem SL.v2 (h : SL b L n p0 A0 A cc0 c row q B g cc s2 s3 s4 s5 s6 s7 s8 s9 s10 s11 s12 s13 s14 s15 s16) : SL (fun j => b j ∨ j = 2) L n p0 A0 A cc0 c row q B g cc s2 s3 (.pointer (some ⟨L, n * 2, none⟩)) s5 s6 s7 s8 s9 s10 s11 s12 s13 s14 s15 s16 :=
  ⟨fun z => h.h0 (z.resolve_right (by decide)), fun z => h.h1 (z.resolve_right (by decide)), fun _ => rfl, fun z => h.h3 (z.resolve_right (by decide)), fun z => h.h4 (z.resolve_right (by decide)), fun z => h.h5 (z.resolve_right (by decide)), fun z => h.h6 (z.resolve_right (by decide)), fun z => h.h7 (z.resolve_right (by decide)), fun z => h.h8 (z.resolve_right (by decide)), fun z => h.h9 (z.resolve_right (by decide)), fun z => h.h10 (z.resolve_right (by decide)), fun z => h.h11 (z.resolve_right (by decide)), fun z => h.h12 (z.resolve_right (by decide)), fun z => h.h14 (z.resolve_right (by decide)), fun z => h.h15 (z.resolve_right (by decide)), fun z => .inl (h.e12 (z.resolve_right (by decide))), fun z => .inl (h.e3 (z.resolve_right (by decide)))⟩
theorem SL.v3 (h : SL b L n p0 A0 A cc0 c row q B g cc s2 s3 s4 s5 s6 s7 s8 s9 s10 s11 s12 s13 s14 s15 s16) : SL (fun j => b j ∨ j = 3) L n p0 A0 A cc0 c row q B g cc s2 s3 s4 (.slice A0 p0.length cc0) s6 s7 s8 s9 s10 s11 s12 s13 s14 s15 s16 :=
  ⟨fun z => h.h0 (z.resolve_right (by decide)), fun z => h.h1 (z.resolve_right (by decide)), fun z => h.h2 (z.resolve_right (by decide)), fun _ => rfl, fun z => h.h4 (z.resolve_right (by decide)), fun z => h.h5 (z.resolve_right (by decide)), fun z => h.h6 (z.resolve_right (by decide)), fun z => h.h7 (z.resolve_right (by decide)), fun z => h.h8 (z.resolve_right (by decide)), fun z => h.h9 (z.resolve_right (by decide)), fun z => h.h10 (z.resolve_right (by decide)), fun z => h.h11 (z.resolve_right (by decide)), fun z => h.h12 (z.resolve_right (by decide)), fun z => h.h14 (z.resolve_right (by decide)), fun z => h.h15 (z.resolve_right (by decide)), fun z => .inl (h.e12 (z.resolve_right (by decide))), fun z => .inl (h.e3 (z.resolve_right (by decide)))⟩
theorem SL.v4 (h : SL b L n p0 A0 A cc0 c row q B g cc s2 s3 s4 s5 s6 s7 s8 s9 s10 s11 s12 s13 s14 s15 s16) : SL (fun j => b j ∨ j = 4) L n p0 A0 A cc0 c row q B g cc s2 s3 s4 s5 (.pointer (some ⟨L, n * 2, none⟩)) s7 s8 s9 s10 s11 s12 s13 s14 s15 s16 :=
  ⟨fun z => h.h0 (z.resolve_right (by decide)), fun z => h.h1 (z.resolve_right (by decide)), fun z => h.h2 (z.resolve_right (by decide)), fun z => h.h3 (z.resolve_right (by decide)), fun _ => rfl, fun z => h.h5 (z.resolve_right (by decide)), fun z => h.h6 (z.resolve_right (by decide)), fun z => h.h7 (z.resolve_right (by decide)), fun z => h.h8 (z.resolve_right (by decide)), fun z => h.h9 (z.resolve_right (by decide)), fun z => h.h10 (z.resolve_right (by decide)), fun z => h.h11 (z.resolve_right (by decide)), fun z => h.h12 (z.resolve_right (by decide)), fun z => h.h14 (z.resolve_right (by decide)), fun z => h.h15 (z.resolve_right (by decide)), fun z => .inl (h.e12 (z.resolve_right (by decide))), fun z => .inl (h.e3 (z.resolve_right (by decide)))⟩
theorem SL.v5 (h : SL b L n p0 A0 A cc0 c row q B g cc s2 s3 s4 s5 s6 s7 s8 s9 s10 s11 s12 s13 s14 s15 s16) : SL (fun j => b j ∨ j = 5) L n p0 A0 A cc0 c row q B g cc s2 s3 s4 s5 s6 (.pointer (some ⟨L, n * 2, none⟩)) s8 s9 s10 s11 s12 s13 s14 s15 s16 :=
  ⟨fun z => h.h0 (z.resolve_right (by decide)), fun z => h.h1 (z.resolve_right (by decide)), fun z => h.h2 (z.resolve_right (by decide)), fun z => h.h3 (z.resolve_right (by decide)), fun z => h.h4 (z.resolve_right (by decide)), fun _ => rfl, fun z => h.h6 (z.resolve_right (by decide)), fun z => h.h7 (z.resolve_right (by decide)), fun z => h.h8 (z.resolve_right (by decide)), fun z => h.h9 (z.resolve_right (by decide)), fun z => h.h10 (z.resolve_right (by decide)), fun z => h.h11 (z.resolve_right (by decide)), fun z => h.h12 (z.resolve_right (by decide)), fun z => h.h14 (z.resolve_right (by decide)), fun z => h.h15 (z.resolve_right (by decide)), fun z => .inl (h.e12 (z.resolve_right (by decide))), fun z => .inl (h.e3 (z.resolve_right (by decide)))⟩
theorem SL.v6 (h : SL b L n p0 A0 A cc0 c row q B g cc s2 s3 s4 s5 s6 s7 s8 s9 s10 s11 s12 s13 s14 s15 s16) : SL (fun j => b j ∨ j = 6) L n p0 A0 A cc0 c row q B g cc s2 s3 s4 s5 s6 s7 (.pointer (some ⟨L, n * 2 + 1, none⟩)) s9 s10 s11 s12 s13 s14 s15 s16 :=
  ⟨fun z => h.h0 (z.resolve_right (by decide)), fun z => h.h1 (z.resolve_right (by decide)), fun z => h.h2 (z.resolve_right (by decide)), fun z => h.h3 (z.resolve_right (by decide)), fun z => h.h4 (z.resolve_right (by decide)), fun z => h.h5 (z.resolve_right (by decide)), fun _ => rfl, fun z => h.h7 (z.resolve_right (by decide)), fun z => h.h8 (z.resolve_right (by decide)), fun z => h.h9 (z.resolve_right (by decide)), fun z => h.h10 (z.resolve_right (by decide)), fun z => h.h11 (z.resolve_right (by decide)), fun z => h.h12 (z.resolve_right (by decide)), fun z => h.h14 (z.resolve_right (by decide)), fun z => h.h15 (z.resolve_right (by decide)), fun z => .inl (h.e12 (z.resolve_right (by decide))), fun z => .inl (h.e3 (z.resolve_right (by decide)))⟩
theorem SL.v7 (h : SL b L n p0 A0 A cc0 c row q B g cc s2 s3 s4 s5 s6 s7 s8 s9 s10 s11 s12 s13 s14 s15 s16) : SL (fun j => b j ∨ j = 7) L n p0 A0 A cc0 c row q B g cc s2 s3 s4 s5 s6 s7 s8 (.slice A row.length c) s10 s11 s12 s13 s14 s15 s16 :=
  ⟨fun z => h.h0 (z.resolve_right (by decide)), fun z => h.h1 (z.resolve_right (by decide)), fun z => h.h2 (z.resolve_right (by decide)), fun z => h.h3 (z.resolve_right (by decide)), fun z => h.h4 (z.resolve_right (by decide)), fun z => h.h5 (z.resolve_right (by decide)), fun z => h.h6 (z.resolve_right (by decide)), fun _ => rfl, fun z => h.h8 (z.resolve_right (by decide)), fun z => h.h9 (z.resolve_right (by decide)), fun z => h.h10 (z.resolve_right (by decide)), fun z => h.h11 (z.resolve_right (by decide)), fun z => h.h12 (z.resolve_right (by decide)), fun z => h.h14 (z.resolve_right (by decide)), fun z => h.h15 (z.resolve_right (by decide)), fun z => .inl (h.e12 (z.resolve_right (by decide))), fun z => .inl (h.e3 (z.resolve_right (by decide)))⟩
theorem SL.v8 (h : SL b L n p0 A0 A cc0 c row q B g cc s2 s3 s4 s5 s6 s7 s8 s9 s10 s11 s12 s13 s14 s15 s16) (q' : Pn) : SL (fun j => b j ∨ j = 8) L n p0 A0 A cc0 c row q' B g cc s2 s3 s4 s5 s6 s7 s8 s9 (.agg #[.int .i64 q'.t.f0, .int .u64 q'.t.f1.f0, .int .u64 q'.t.f1.f1, .int .u64 q'.t.f1.f2, .int .u64 q'.t.f1.f3, .slice q'.A q'.t.f2.length q'.c, .int .i64 q'.t.f3, .int .i64 q'.t.f4]) s11 s12 s13 s14 s15 s16 :=
  ⟨fun z => h.h0 (z.resolve_right (by decide)), fun z => h.h1 (z.resolve_right (by decide)), fun z => h.h2 (z.resolve_right (by decide)), fun z => h.h3 (z.resolve_right (by decide)), fun z => h.h4 (z.resolve_right (by decide)), fun z => h.h5 (z.resolve_right (by decide)), fun z => h.h6 (z.resolve_right (by decide)), fun z => h.h7 (z.resolve_right (by decide)), fun _ => rfl, fun z => h.h9 (z.resolve_right (by decide)), fun z => h.h10 (z.resolve_right (by decide)), fun z => h.h11 (z.resolve_right (by decide)), fun z => h.h12 (z.resolve_right (by decide)), fun z => h.h14 (z.resolve_right (by decide)), fun z => h.h15 (z.resolve_right (by decide)), fun z => .inl (h.e12 (z.resolve_right (by decide))), fun z => .inl (h.e3 (z.resolve_right (by decide)))⟩
theorem SL.v9 (h : SL b L n p0 A0 A cc0 c row q B g cc s2 s3 s4 s5 s6 s7 s8 s9 s10 s11 s12 s13 s14 s15 s16) : SL (fun j => b j ∨ j = 9) L n p0 A0 A cc0 c row q B g cc s2 s3 s4 s5 s6 s7 s8 s9 s10 (.int .i64 (p0.length : Int)) s12 s13 s14 s15 s16 :=
  ⟨fun z => h.h0 (z.resolve_right (by decide)), fun z => h.h1 (z.resolve_right (by decide)), fun z => h.h2 (z.resolve_right (by decide)), fun z => h.h3 (z.resolve_right (by decide)), fun z => h.h4 (z.resolve_right (by decide)), fun z => h.h5 (z.resolve_right (by decide)), fun z => h.h6 (z.resolve_right (by decide)), fun z => h.h7 (z.resolve_right (by decide)), fun z => h.h8 (z.resolve_right (by decide)), fun _ => rfl, fun z => h.h10 (z.resolve_right (by decide)), fun z => h.h11 (z.resolve_right (by decide)), fun z => h.h12 (z.resolve_right (by decide)), fun z => h.h14 (z.resolve_right (by decide)), fun z => h.h15 (z.resolve_right (by decide)), fun z => .inl (h.e12 (z.resolve_right (by decide))), fun z => .inl (h.e3 (z.resolve_right (by decide)))⟩
theorem SL.v10 (h : SL b L n p0 A0 A cc0 c row q B g cc s2 s3 s4 s5 s6 s7 s8 s9 s10 s11 s12 s13 s14 s15 s16) (B' : Nat) : SL (fun j => b j ∨ j = 10) L n p0 A0 A cc0 c row q B' g cc s2 s3 s4 s5 s6 s7 s8 s9 s10 s11 (.slice (some ⟨B', 0, none⟩) 1 1) s13 s14 s15 s16 :=
  ⟨fun z => h.h0 (z.resolve_right (by decide)), fun z => h.h1 (z.resolve_right (by decide)), fun z => h.h2 (z.resolve_right (by decide)), fun z => h.h3 (z.resolve_right (by decide)), fun z => h.h4 (z.resolve_right (by decide)), fun z => h.h5 (z.resolve_right (by decide)), fun z => h.h6 (z.resolve_right (by decide)), fun z => h.h7 (z.resolve_right (by decide)), fun z => h.h8 (z.resolve_right (by decide)), fun z => h.h9 (z.resolve_right (by decide)), fun _ => rfl, fun z => h.h11 (z.resolve_right (by decide)), fun z => h.h12 (z.resolve_right (by decide)), fun z => h.h14 (z.resolve_right (by decide)), fun z => h.h15 (z.resolve_right (by decide)), fun z => .inl (h.e12 (z.resolve_right (by decide))), fun z => .inl (h.e3 (z.resolve_right (by decide)))⟩
theorem SL.v11 (h : SL b L n p0 A0 A cc0 c row q B g cc s2 s3 s4 s5 s6 s7 s8 s9 s10 s11 s12 s13 s14 s15 s16) (hx12 : ¬ b 12) (h3 : b 3) (g' cc' : Nat) : SL (fun j => b j ∨ j = 11) L n p0 A0 A cc0 c row q B g' cc' s2 s3 s4 s5 s6 s7 s8 s9 s10 s11 s12 (.slice (some ⟨g', 0, none⟩) (p0.length + 1) cc') s14 s15 s16 :=
  ⟨fun z => h.h0 (z.resolve_right (by decide)), fun z => h.h1 (z.resolve_right (by decide)), fun z => h.h2 (z.resolve_right (by decide)), fun z => h.h3 (z.resolve_right (by decide)), fun z => h.h4 (z.resolve_right (by decide)), fun z => h.h5 (z.resolve_right (by decide)), fun z => h.h6 (z.resolve_right (by decide)), fun z => h.h7 (z.resolve_right (by decide)), fun z => h.h8 (z.resolve_right (by decide)), fun z => h.h9 (z.resolve_right (by decide)), fun z => h.h10 (z.resolve_right (by decide)), fun _ => rfl, fun z => absurd (z.resolve_right (by decide)) hx12, fun z => h.h14 (z.resolve_right (by decide)), fun z => h.h15 (z.resolve_right (by decide)), fun z => .inl (h.e12 (z.resolve_right (by decide))), fun _ => .inl h3⟩
theorem SL.v12 (h : SL b L n p0 A0 A cc0 c row q B g cc s2 s3 s4 s5 s6 s7 s8 s9 s10 s11 s12 s13 s14 s15 s16) (h11 : b 11) : SL (fun j => b j ∨ j = 12) L n p0 A0 A cc0 c row q B g cc s2 s3 s4 s5 s6 s7 s8 s9 s10 s11 s12 s13 (.pointer (some ⟨g, p0.length * 8, none⟩)) s15 s16 :=
  ⟨fun z => h.h0 (z.resolve_right (by decide)), fun z => h.h1 (z.resolve_right (by decide)), fun z => h.h2 (z.resolve_right (by decide)), fun z => h.h3 (z.resolve_right (by decide)), fun z => h.h4 (z.resolve_right (by decide)), fun z => h.h5 (z.resolve_right (by decide)), fun z => h.h6 (z.resolve_right (by decide)), fun z => h.h7 (z.resolve_right (by decide)), fun z => h.h8 (z.resolve_right (by decide)), fun z => h.h9 (z.resolve_right (by decide)), fun z => h.h10 (z.resolve_right (by decide)), fun z => h.h11 (z.resolve_right (by decide)), fun _ => rfl, fun z => h.h14 (z.resolve_right (by decide)), fun z => h.h15 (z.resolve_right (by decide)), fun _ => .inl h11, fun z => .inl (h.e3 (z.resolve_right (by decide)))⟩
theorem SL.v13 (h : SL b L n p0 A0 A cc0 c row q B g cc s2 s3 s4 s5 s6 s7 s8 s9 s10 s11 s12 s13 s14 s15 s16) : SL (fun j => b j ∨ j = 13) L n p0 A0 A cc0 c row q B g cc s2 s3 s4 s5 s6 s7 s8 s9 s10 s11 s12 s13 s14 s15 s16 :=
  ⟨fun z => h.h0 (z.resolve_right (by decide)), fun z => h.h1 (z.resolve_right (by decide)), fun z => h.h2 (z.resolve_right (by decide)), fun z => h.h3 (z.resolve_right (by decide)), fun z => h.h4 (z.resolve_right (by decide)), fun z => h.h5 (z.resolve_right (by decide)), fun z => h.h6 (z.resolve_right (by decide)), fun z => h.h7 (z.resolve_right (by decide)), fun z => h.h8 (z.resolve_right (by decide)), fun z => h.h9 (z.resolve_right (by decide)), fun z => h.h10 (z.resolve_right (by decide)), fun z => h.h11 (z.resolve_right (by decide)), fun z => h.h12 (z.resolve_right (by decide)), fun z => h.h14 (z.resolve_right (by decide)), fun z => h.h15 (z.resolve_right (by decide)), fun z => .inl (h.e12 (z.resolve_right (by decide))), fun z => .inl (h.e3 (z.resolve_right (by decide)))⟩
theorem SL.v14 (h : SL b L n p0 A0 A cc0 c row q B g cc s2 s3 s4 s5 s6 s7 s8 s9 s10 s11 s12 s13 s14 s15 s16) : SL (fun j => b j ∨ j = 14) L n p0 A0 A cc0 c row q B g cc s2 s3 s4 s5 s6 s7 s8 s9 s10 s11 s12 s13 s14 (.pointer (some ⟨L, n * 2, none⟩)) s16 :=
  ⟨fun z => h.h0 (z.resolve_right (by decide)), fun z => h.h1 (z.resolve_right (by decide)), fun z => h.h2 (z.resolve_right (by decide)), fun z => h.h3 (z.resolve_right (by decide)), fun z => h.h4 (z.resolve_right (by decide)), fun z => h.h5 (z.resolve_right (by decide)), fun z => h.h6 (z.resolve_right (by decide)), fun z => h.h7 (z.resolve_right (by decide)), fun z => h.h8 (z.resolve_right (by decide)), fun z => h.h9 (z.resolve_right (by decide)), fun z => h.h10 (z.resolve_right (by decide)), fun z => h.h11 (z.resolve_right (by decide)), fun z => h.h12 (z.resolve_right (by decide)), fun _ => rfl, fun z => h.h15 (z.resolve_right (by decide)), fun z => .inl (h.e12 (z.resolve_right (by decide))), fun z => .inl (h.e3 (z.resolve_right (by decide)))⟩
theorem SL.v15 (h : SL b L n p0 A0 A cc0 c row q B g cc s2 s3 s4 s5 s6 s7 s8 s9 s10 s11 s12 s13 s14 s15 s16) : SL (fun j => b j ∨ j = 15) L n p0 A0 A cc0 c row q B g cc s2 s3 s4 s5 s6 s7 s8 s9 s10 s11 s12 s13 s14 s15 (.pointer (some ⟨L, n * 2, none⟩)) :=
  ⟨fun z => h.h0 (z.resolve_right (by decide)), fun z => h.h1 (z.resolve_right (by decide)), fun z => h.h2 (z.resolve_right (by decide)), fun z => h.h3 (z.resolve_right (by decide)), fun z => h.h4 (z.resolve_right (by decide)), fun z => h.h5 (z.resolve_right (by decide)), fun z => h.h6 (z.resolve_right (by decide)), fun z => h.h7 (z.resolve_right (by decide)), fun z => h.h8 (z.resolve_right (by decide)), fun z => h.h9 (z.resolve_right (by decide)), fun z => h.h10 (z.resolve_right (by decide)), fun z => h.h11 (z.resolve_right (by decide)), fun z => h.h12 (z.resolve_right (by decide)), fun z => h.h14 (z.resolve_right (by decide)), fun _ => rfl, fun z => .inl (h.e12 (z.resolve_right (by decide))), fun z => .inl (h.e3 (z.resolve_right (by decide)))⟩
theorem SL.v16 (h : SL b L n p0 A0 A cc0 c row q B g cc s2 s3 s4 s5 s6 s7 s8 s9 s10 s11 s12 s13 s14 s15 s16) : SL (fun j => b j ∨ j = 16) L n p0 A0 A cc0 c row q B g cc s2 s3 s4 s5 s6 s7 s8 s9 s10 s11 s12 s13 s14 s15 s16 :=
  ⟨fun z => h.h0 (z.resolve_right (by decide)), fun z => h.h1 (z.resolve_right (by decide)), fun z => h.h2 (z.resolve_right (by decide)), fun z => h.h3 (z.resolve_right (by decide)), fun z => h.h4 (z.resolve_right (by decide)), fun z => h.h5 (z.resolve_right (by decide)), fun z => h.h6 (z.resolve_right (by decide)), fun z => h.h7 (z.resolve_right (by decide)), fun z => h.h8 (z.resolve_right (by decide)), fun z => h.h9 (z.resolve_right (by decide)), fun z => h.h10 (z.resolve_right (by decide)), fun z => h.h11 (z.resolve_right (by decide)), fun z => h.h12 (z.resolve_right (by decide)), fun z => h.h14 (z.resolve_right (by decide)), fun z => h.h15 (z.resolve_right (by decide)), fun z => .inl (h.e12 (z.resolve_right (by decide))), fun z => .inl (h.e3 (z.resolve_right (by decide)))⟩
end
attribute [local go_sem ↓] appS
section
variable (R : Nat) (s : ByteArray) (lv : Value) (st : Sc) (w : World) (base : Nat) (own : Own) (pre : List LvE) (e : LvE)
set_option maxRecDepth 100000 in
set_option maxHeartbeats 8000000 in
theorem close_any (L cap : Nat) (hR : RdB w R s lv st) (hL : LvI w base R lv own (pre ++ [e])) (hbase : base ≤ w.heap.size) (hlen0 : e.lv.rows.length ≤ 1000) (hlen1 : e.lv.row.length ≤ 1000) (hlv : lv = .slice (some ⟨L, 0, none⟩) (pre.length + 1) cap) :
    Calls Tryd.prog 26 #[.pointer (some ⟨L, pre.length * 2, none⟩)] w fun x w' => x = .returned (.tuple #[]) ∧ ∃ own' e', e'.lv = e.lv.close ∧ RdB w' R s lv st ∧ LvI w' base R lv own' (pre ++ [e']) ∧ Below base w w' := by
  obtain ⟨L', cap', hlv', hL1, hL2, hL3, hL4, hL5, l0, l1, fl0, fl1⟩ := hL.cells
  rw [hlv] at hlv'
  injection hlv' with hlv1 _ hlv2
  injection hlv1 with hlv1
  injection hlv1 with hlv1 _ _
  subst hlv1 hlv2
  obtain ⟨v0, v1, ⟨rows, row⟩, p0, p1⟩ := e
  obtain ⟨rw0, rw1⟩ := hL.top
  dsimp only at rw0 rw1 l0 l1 hlen0 hlen1
  obtain ⟨A, c, rfl, hc, hF⟩ := rw1.freeze (own1 := ownF own pre.length) (fun i _ h => by unfold ownF; rw [h]; simp) (fun i _ h => if_pos h)
  obtain ⟨A0, cc0, rfl, hc0, hm0, hn0⟩ := rw0.sl
  have hlp := rw0.len
  rw [← hlp] at l0 hc0 hL hlen0 ⊢
  obtain ⟨e, he⟩ : ∃ e : LvE, e = ⟨.slice A0 p0.length cc0, .slice A row.length c, ⟨rows, row⟩, p0, p1⟩ := ⟨_, rfl⟩
  have hrow0 : w.ownsRow base 27 8 (.slice A0 p0.length cc0) p0.length (ncs p0) := by rw [hlp]; have := rw0.row; rw [hlp] at this; exact this
  have htag0 : ∀ k, (Value.slice A0 p0.length cc0).ownBlock = some k → own k = some (2 + 2 * pre.length) := by rw [hlp]; exact rw0.tag
  rw [← he] at hL ⊢
  have hCO : CO w base R L pre.length own (.slice A0 p0.length cc0) p0 := ⟨hbase, hL1, hL2, hL3, hrow0, htag0, hL.new, hlen0⟩
  have hfin : ∀ (q : Pn) (B g cc : Nat) (W : World), CW True True True True True w W base L pre.length own (.slice A0 p0.length cc0) p0 row q B g cc →
      (∃ own' e', e'.lv = e.lv.close ∧ LvI (W.setCell ⟨L, pre.length * 2 + 1, none⟩ (.slice none 0 0)) base R lv own' (pre ++ [e'])) ∧ (W.setCell ⟨L, pre.length * 2 + 1, none⟩ (.slice none 0 0)).heap[R]? = w.heap[R]? ∧ Below base w (W.setCell ⟨L, pre.length * 2 + 1, none⟩ (.slice none 0 0)) := fun q B g cc W h =>
    close_fin hL hR.lt h hCO (by rw [he]) (by rw [he]) (by rw [he]) hlv
  obtain ⟨n, hn⟩ : ∃ n, n = pre.length := ⟨_, rfl⟩
  rw [← hn] at l0 l1 fl0 fl1 hL4 hfin hF hCO ⊢
  have HR := Lib.hid hR
  have HHE := Lib.hid he
  have HFIN := Lib.hid hfin
  have HF := Lib.hid hF
  have HCO := Lib.hid hCO
  have hlow : rows.length = p0.length := hlp.symm
  clear hlow hlp rw0 rw1 hL he hlv hR hn0 hm0 hlen0 hlen1 hF hn hfin hrow0 htag0 hCO
  go_enter Tryd.func26, Tryd.ntmps26
  go_upto_region 0 with fail
  refine wp_region_inv (fun L' a W => L'.size = 17 ∧ ∃ q B g cc s2 s3 s4 s5 s6 s7 s8 s9 s10 s11 s12 s13 s14 s15 s16, a = ⟨#[.pointer (some ⟨L, n * 2, none⟩), undef, s2, s3, s4, s5, s6, s7, s8, s9, s10, s11, s12, s13, s14, s15, s16, undef, undef, undef], []⟩ ∧ SL (Ls L') L n p0 A0 A cc0 c row q B g cc s2 s3 s4 s5 s6 s7 s8 s9 s10 s11 s12 s13 s14 s15 s16 ∧ CW (Ls L' 8) (Ls L' 10) (Ls L' 11) (Ls L' 13) (Ls L' 16) w W base L n own (.slice A0 p0.length cc0) p0 row q B g cc) (by kernel_rfl) ?_ ?_ ?_
  · refine ⟨rfl, ⟨zN, none, 0⟩, 0, 0, 0, undef, undef, undef, undef, undef, undef, undef, undef, undef, undef, undef, undef, undef, undef, undef, rfl, ?_, ?_⟩
    · have hb : ∀ j, ¬ Ls (Array.replicate 17 false) j := by
        intro j h
        unfold Ls at h
        rw [Array.getD_eq_getD_getElem?, Array.getElem?_replicate] at h
        split at h <;> cases h
      exact ⟨fun z => absurd z (hb _), fun z => absurd z (hb _), fun z => absurd z (hb _), fun z => absurd z (hb _), fun z => absurd z (hb _), fun z => absurd z (hb _), fun z => absurd z (hb _), fun z => absurd z (hb _), fun z => absurd z (hb _), fun z => absurd z (hb _), fun z => absurd z (hb _), fun z => absurd z (hb _), fun z => absurd z (hb _), fun z => absurd z (hb _), fun z => absurd z (hb _), fun z => absurd z (hb _), fun z => absurd z (hb _)⟩
    · have hb : ∀ j, Ls (Array.replicate 17 false) j = False := by
        intro j
        refine propext ⟨fun h => ?_, fun h => h.elim⟩
        unfold Ls at h
        rw [Array.getD_eq_getD_getElem?, Array.getElem?_replicate] at h
        split at h <;> cases h
      show CW (Ls (Array.replicate 17 false) 8) (Ls (Array.replicate 17 false) 10) (Ls (Array.replicate 17 false) 11) (Ls (Array.replicate 17 false) 13) (Ls (Array.replicate 17 false) 16) _ _ _ _ _ _ _ _ _ _ _ _ _
      rw [hb, hb, hb, hb, hb]
      exact CW.start HCO.out
  · rintro L' a W i ⟨hLs, q, B, g, cc, s2, s3, s4, s5, s6, s7, s8, s9, s10, s11, s12, s13, s14, s15, s16, rfl, hS, hW⟩ hi
    obtain ⟨hun, o, ho, hall⟩ := mem_ready.1 hi
    have hi17 : i < 17 := by
      have := (Array.getElem?_eq_some_iff.1 ho).1
      simpa using this
    have hc : i = 0 ∨ i = 1 ∨ i = 2 ∨ i = 3 ∨ i = 4 ∨ i = 5 ∨ i = 6 ∨ i = 7 ∨ i = 8 ∨ i = 9 ∨ i = 10 ∨ i = 11 ∨ i = 12 ∨ i = 13 ∨ i = 14 ∨ i = 15 ∨ i = 16 := by omega
    have hnot : ¬ Ls L' i := by
      intro e
      unfold Ls at e
      simp only [Array.getD_eq_getD_getElem?, Array.getElem?_eq_getElem (show i < L'.size by omega)] at hun e
      have h1 : L'[i] = false := hun
      have h2 : L'[i] = true := e
      rw [h1] at h2; cases h2
    have LL2 := HCO.out.L2
    rcases hc with rfl | rfl | rfl | rfl | rfl | rfl | rfl | rfl | rfl | rfl | rfl | rfl | rfl | rfl | rfl | rfl | rfl
    · have hb : Ls (L'.setIfInBounds 0 true) = fun j => (Ls L' j ∨ j = 0) := funext fun j => propext (getD_set_iff (by omega))
      have hsz : (L'.setIfInBounds 0 true).size = 17 := by rw [Array.size_setIfInBounds]; exact hLs
      refine wpOp_at ho (by obtain rfl := Option.some.inj ho; rfl) ?_
      obtain rfl := Option.some.inj ho
      have hn := hS.v0
      have hw := hW
      clear hi ho hall hun hS hW hnot
      go_simp
      exact ⟨_, _, _, _, _, _, _, _, _, _, _, _, _, _, _, _, _, _, _, ⟨rfl, rfl, rfl, rfl, rfl, rfl, rfl, rfl, rfl, rfl, rfl, rfl, rfl, rfl, rfl⟩, hn, hw⟩
    · have hb : Ls (L'.setIfInBounds 1 true) = fun j => (Ls L' j ∨ j = 1) := funext fun j => propext (getD_set_iff (by omega))
      have hsz : (L'.setIfInBounds 1 true).size = 17 := by rw [Array.size_setIfInBounds]; exact hLs
      refine wpOp_at ho (by obtain rfl := Option.some.inj ho; rfl) ?_
      obtain rfl := Option.some.inj ho
      have q0 := hS.h0 (hall ⟨0, Ground.data⟩ (by simp) rfl)
      subst q0
      have hn := hS.v1
      have hw := hW
      clear hi ho hall hun hS hW hnot
      go_simp
      exact ⟨_, _, _, _, _, _, _, _, _, _, _, _, _, _, _, _, _, _, _, ⟨rfl, rfl, rfl, rfl, rfl, rfl, rfl, rfl, rfl, rfl, rfl, rfl, rfl, rfl, rfl⟩, hn, hw⟩
    · have hb : Ls (L'.setIfInBounds 2 true) = fun j => (Ls L' j ∨ j = 2) := funext fun j => propext (getD_set_iff (by omega))
      have hsz : (L'.setIfInBounds 2 true).size = 17 := by rw [Array.size_setIfInBounds]; exact hLs
      refine wpOp_at ho (by obtain rfl := Option.some.inj ho; rfl) ?_
      obtain rfl := Option.some.inj ho
      have q1 := hS.h1 (hall ⟨1, Ground.data⟩ (by simp) rfl)
      subst q1
      have hn := hS.v2
      have hw := hW
      clear hi ho hall hun hS hW hnot
      go_simp
      exact ⟨_, _, _, _, _, _, _, _, _, _, _, _, _, _, _, _, _, _, _, ⟨rfl, rfl, rfl, rfl, rfl, rfl, rfl, rfl, rfl, rfl, rfl, rfl, rfl, rfl, rfl⟩, hn, hw⟩
    · have hb : Ls (L'.setIfInBounds 3 true) = fun j => (Ls L' j ∨ j = 3) := funext fun j => propext (getD_set_iff (by omega))
      have hsz : (L'.setIfInBounds 3 true).size = 17 := by rw [Array.size_setIfInBounds]; exact hLs
      refine wpOp_at ho (by obtain rfl := Option.some.inj ho; rfl) ?_
      obtain rfl := Option.some.inj ho
      have q2 := hS.h2 (hall ⟨2, Ground.data⟩ (by simp) rfl)
      subst q2
      have hcell : W.cell? ⟨L, n * 2, none⟩ = some (.slice A0 p0.length cc0) := by
        have h16 : ¬ Ls L' 16 := fun e => hnot (hS.e3 (hW.e16 e))
        exact (World.cell?_of_block (a := ⟨L, n * 2, none⟩) (hW.l0 h16)).trans l0
      have hn := hS.v3
      have hw := hW
      clear hi ho hall hun hS hW hnot
      go_simp
      exact ⟨_, _, _, _, _, _, _, _, _, _, _, _, _, _, _, _, _, _, _, ⟨rfl, rfl, rfl, rfl, rfl, rfl, rfl, rfl, rfl, rfl, rfl, rfl, rfl, rfl, rfl⟩, hn, hw⟩
    · have hb : Ls (L'.setIfInBounds 4 true) = fun j => (Ls L' j ∨ j = 4) := funext fun j => propext (getD_set_iff (by omega))
      have hsz : (L'.setIfInBounds 4 true).size = 17 := by rw [Array.size_setIfInBounds]; exact hLs
      refine wpOp_at ho (by obtain rfl := Option.some.inj ho; rfl) ?_
      obtain rfl := Option.some.inj ho
      have hn := hS.v4
      have hw := hW
      clear hi ho hall hun hS hW hnot
      go_simp
      exact ⟨_, _, _, _, _, _, _, _, _, _, _, _, _, _, _, _, _, _, _, ⟨rfl, rfl, rfl, rfl, rfl, rfl, rfl, rfl, rfl, rfl, rfl, rfl, rfl, rfl, rfl⟩, hn, hw⟩
    · have hb : Ls (L'.setIfInBounds 5 true) = fun j => (Ls L' j ∨ j = 5) := funext fun j => propext (getD_set_iff (by omega))
      have hsz : (L'.setIfInBounds 5 true).size = 17 := by rw [Array.size_setIfInBounds]; exact hLs
      refine wpOp_at ho (by obtain rfl := Option.some.inj ho; rfl) ?_
      obtain rfl := Option.some.inj ho
      have q4 := hS.h4 (hall ⟨4, Ground.data⟩ (by simp) rfl)
      subst q4
      have hn := hS.v5
      have hw := hW
      clear hi ho hall hun hS hW hnot
      go_simp
      exact ⟨_, _, _, _, _, _, _, _, _, _, _, _, _, _, _, _, _, _, _, ⟨rfl, rfl, rfl, rfl, rfl, rfl, rfl, rfl, rfl, rfl, rfl, rfl, rfl, rfl, rfl⟩, hn, hw⟩
    · have hb : Ls (L'.setIfInBounds 6 true) = fun j => (Ls L' j ∨ j = 6) := funext fun j => propext (getD_set_iff (by omega))
      have hsz : (L'.setIfInBounds 6 true).size = 17 := by rw [Array.size_setIfInBounds]; exact hLs
      refine wpOp_at ho (by obtain rfl := Option.some.inj ho; rfl) ?_
      obtain rfl := Option.some.inj ho
      have q5 := hS.h5 (hall ⟨5, Ground.data⟩ (by simp) rfl)
      subst q5
      have hn := hS.v6
      have hw := hW
      clear hi ho hall hun hS hW hnot
      go_simp
      exact ⟨_, _, _, _, _, _, _, _, _, _, _, _, _, _, _, _, _, _, _, ⟨rfl, rfl, rfl, rfl, rfl, rfl, rfl, rfl, rfl, rfl, rfl, rfl, rfl, rfl, rfl⟩, hn, hw⟩
    · have hb : Ls (L'.setIfInBounds 7 true) = fun j => (Ls L' j ∨ j = 7) := funext fun j => propext (getD_set_iff (by omega))
      have hsz : (L'.setIfInBounds 7 true).size = 17 := by rw [Array.size_setIfInBounds]; exact hLs
      refine wpOp_at ho (by obtain rfl := Option.some.inj ho; rfl) ?_
      obtain rfl := Option.some.inj ho
      have q6 := hS.h6 (hall ⟨6, Ground.data⟩ (by simp) rfl)
      subst q6
      have hcell : W.cell? ⟨L, n * 2 + 1, none⟩ = some (.slice A row.length c) := by
        by_cases h16 : Ls L' 16
        · have h2 := hW.l1 h16
          have h3 : (w.setCell ⟨L, n * 2, none⟩ (.slice (some ⟨g, 0, none⟩) (p0.length + 1) cc)).cell? ⟨L, n * 2 + 1, none⟩ = some (.slice A row.length c) := by
            clear hi ho hall hun hS hW hnot h2 h16
            go_simp
          exact (World.cell?_of_block (a := ⟨L, n * 2 + 1, none⟩) h2).trans h3
        · exact (World.cell?_of_block (a := ⟨L, n * 2 + 1, none⟩) (hW.l0 h16)).trans l1
      have hn := hS.v7
      have hw := hW
      clear hi ho hall hun hS hW hnot
      go_simp
      exact ⟨_, _, _, _, _, _, _, _, _, _, _, _, _, _, _, _, _, _, _, ⟨rfl, rfl, rfl, rfl, rfl, rfl, rfl, rfl, rfl, rfl, rfl, rfl, rfl, rfl, rfl⟩, hn, hw⟩
    · have hb : Ls (L'.setIfInBounds 8 true) = fun j => (Ls L' j ∨ j = 8) := funext fun j => propext (getD_set_iff (by omega))
      have hsz : (L'.setIfInBounds 8 true).size = 17 := by rw [Array.size_setIfInBounds]; exact hLs
      refine wpOp_at ho (by obtain rfl := Option.some.inj ho; rfl) ?_
      obtain rfl := Option.some.inj ho
      have q7 := hS.h7 (hall ⟨7, Ground.data⟩ (by simp) rfl)
      subst q7
      have hone := one_p 2 _ A c row W hc (hW.rowF HCO.out HF.out)
      have hn0 := fun q' => hS.v8 q'
      have HW := Lib.hid hW
      clear hi ho hall hun hS hW
      go_simp
      go_at_call 27
      refine hone.mono ?_
      rintro e W2 ⟨q', rfl, hb2, hq1, hq2, hq3⟩
      have hw := HW.out.one HCO.out hnot hb2 hq1 hq2 hq3
      have hn := hn0 q'
      exact ⟨_, _, _, _, _, _, _, _, _, _, _, _, _, _, _, _, _, _, _, ⟨rfl, rfl, rfl, rfl, rfl, rfl, rfl, rfl, rfl, rfl, rfl, rfl, rfl, rfl, rfl⟩, hn, hw⟩
    · have hb : Ls (L'.setIfInBounds 9 true) = fun j => (Ls L' j ∨ j = 9) := funext fun j => propext (getD_set_iff (by omega))
      have hsz : (L'.setIfInBounds 9 true).size = 17 := by rw [Array.size_setIfInBounds]; exact hLs
      refine wpOp_at ho (by obtain rfl := Option.some.inj ho; rfl) ?_
      obtain rfl := Option.some.inj ho
      have q3 := hS.h3 (hall ⟨3, Ground.data⟩ (by simp) rfl)
      subst q3
      have hn := hS.v9
      have hw := hW
      clear hi ho hall hun hS hW hnot
      go_simp
      exact ⟨_, _, _, _, _, _, _, _, _, _, _, _, _, _, _, _, _, _, _, ⟨rfl, rfl, rfl, rfl, rfl, rfl, rfl, rfl, rfl, rfl, rfl, rfl, rfl, rfl, rfl⟩, hn, hw⟩
    · have hb : Ls (L'.setIfInBounds 10 true) = fun j => (Ls L' j ∨ j = 10) := funext fun j => propext (getD_set_iff (by omega))
      have hsz : (L'.setIfInBounds 10 true).size = 17 := by rw [Array.size_setIfInBounds]; exact hLs
      refine wpOp_at ho (by obtain rfl := Option.some.inj ho; rfl) ?_
      obtain rfl := Option.some.inj ho
      have hn := hS.v10 W.heap.size
      have hw := hW.new HCO.out hnot
      clear hi ho hall hun hS hW hnot
      go_simp
      exact ⟨_, _, _, _, _, _, _, _, _, _, _, _, _, _, _, _, _, _, _, ⟨rfl, rfl, rfl, rfl, rfl, rfl, rfl, rfl, rfl, rfl, rfl, rfl, rfl, rfl, rfl⟩, hn, hw⟩
    · have hb : Ls (L'.setIfInBounds 11 true) = fun j => (Ls L' j ∨ j = 11) := funext fun j => propext (getD_set_iff (by omega))
      have hsz : (L'.setIfInBounds 11 true).size = 17 := by rw [Array.size_setIfInBounds]; exact hLs
      refine wpOp_at ho (by obtain rfl := Option.some.inj ho; rfl) ?_
      obtain rfl := Option.some.inj ho
      have q3 := hS.h3 (hall ⟨3, Ground.data⟩ (by simp) rfl)
      subst q3
      have q10 := hS.h10 (hall ⟨10, Ground.data⟩ (by simp) rfl)
      subst q10
      obtain ⟨g', cc', W', hrun, hw⟩ := hW.app HCO.out (hall ⟨10, Ground.data⟩ (by simp) rfl) hnot
      have hn := hS.v11 (fun z => hnot (hS.e12 z)) (hall ⟨3, Ground.data⟩ (by simp) rfl) g' cc'
      clear hi ho hall hun hS hW hnot
      go_simp
      exact ⟨_, _, _, _, _, _, _, _, _, _, _, _, _, _, _, _, _, _, _, ⟨rfl, rfl, rfl, rfl, rfl, rfl, rfl, rfl, rfl, rfl, rfl, rfl, rfl, rfl, rfl⟩, hn, hw⟩
    · have hb : Ls (L'.setIfInBounds 12 true) = fun j => (Ls L' j ∨ j = 12) := funext fun j => propext (getD_set_iff (by omega))
      have hsz : (L'.setIfInBounds 12 true).size = 17 := by rw [Array.size_setIfInBounds]; exact hLs
      refine wpOp_at ho (by obtain rfl := Option.some.inj ho; rfl) ?_
      obtain rfl := Option.some.inj ho
      have q11 := hS.h11 (hall ⟨11, Ground.data⟩ (by simp) rfl)
      subst q11
      have q9 := hS.h9 (hall ⟨9, Ground.data⟩ (by simp) rfl)
      subst q9
      have hn := hS.v12 (hall ⟨11, Ground.data⟩ (by simp) rfl)
      have hlt : (p0.length : Int) < (p0.length : Int) + 1 := by omega
      have hw := hW
      clear hi ho hall hun hS hW hnot
      go_simp
      exact ⟨_, _, _, _, _, _, _, _, _, _, _, _, _, _, _, _, _, _, _, ⟨rfl, rfl, rfl, rfl, rfl, rfl, rfl, rfl, rfl, rfl, rfl, rfl, rfl, rfl, rfl⟩, hn, hw⟩
    · have hb : Ls (L'.setIfInBounds 13 true) = fun j => (Ls L' j ∨ j = 13) := funext fun j => propext (getD_set_iff (by omega))
      have hsz : (L'.setIfInBounds 13 true).size = 17 := by rw [Array.size_setIfInBounds]; exact hLs
      refine wpOp_at ho (by obtain rfl := Option.some.inj ho; rfl) ?_
      obtain rfl := Option.some.inj ho
      have q12 := hS.h12 (hall ⟨12, Ground.data⟩ (by simp) rfl)
      subst q12
      have q8 := hS.h8 (hall ⟨8, Ground.data⟩ (by simp) rfl)
      subst q8
      have h11 := hS.e12 (hall ⟨12, Ground.data⟩ (by simp) rfl)
      have hw := hW.node HCO.out (hall ⟨8, Ground.data⟩ (by simp) rfl) h11 hnot
      have hn := hS.v13
      obtain ⟨⟨z0, z1, z2, z3, z4, z5, z6, z7⟩, zf⟩ := own8_cells (hW.r1 h11 hnot) (ncs_length p0)
      unfold set8 at hw
      clear h11
      clear hi ho hall hun hS hW hnot
      go_simp
      exact ⟨_, _, _, _, _, _, _, _, _, _, _, _, _, _, _, _, _, _, _, ⟨rfl, rfl, rfl, rfl, rfl, rfl, rfl, rfl, rfl, rfl, rfl, rfl, rfl, rfl, rfl⟩, hn, hw⟩
    · have hb : Ls (L'.setIfInBounds 14 true) = fun j => (Ls L' j ∨ j = 14) := funext fun j => propext (getD_set_iff (by omega))
      have hsz : (L'.setIfInBounds 14 true).size = 17 := by rw [Array.size_setIfInBounds]; exact hLs
      refine wpOp_at ho (by obtain rfl := Option.some.inj ho; rfl) ?_
      obtain rfl := Option.some.inj ho
      have q0 := hS.h0 (hall ⟨0, Ground.data⟩ (by simp) rfl)
      subst q0
      have hn := hS.v14
      have hw := hW
      clear hi ho hall hun hS hW hnot
      go_simp
      exact ⟨_, _, _, _, _, _, _, _, _, _, _, _, _, _, _, _, _, _, _, ⟨rfl, rfl, rfl, rfl, rfl, rfl, rfl, rfl, rfl, rfl, rfl, rfl, rfl, rfl, rfl⟩, hn, hw⟩
    · have hb : Ls (L'.setIfInBounds 15 true) = fun j => (Ls L' j ∨ j = 15) := funext fun j => propext (getD_set_iff (by omega))
      have hsz : (L'.setIfInBounds 15 true).size = 17 := by rw [Array.size_setIfInBounds]; exact hLs
      refine wpOp_at ho (by obtain rfl := Option.some.inj ho; rfl) ?_
      obtain rfl := Option.some.inj ho
      have q14 := hS.h14 (hall ⟨14, Ground.data⟩ (by simp) rfl)
      subst q14
      have hn := hS.v15
      have hw := hW
      clear hi ho hall hun hS hW hnot
      go_simp
      exact ⟨_, _, _, _, _, _, _, _, _, _, _, _, _, _, _, _, _, _, _, ⟨rfl, rfl, rfl, rfl, rfl, rfl, rfl, rfl, rfl, rfl, rfl, rfl, rfl, rfl, rfl⟩, hn, hw⟩
    · have hb : Ls (L'.setIfInBounds 16 true) = fun j => (Ls L' j ∨ j = 16) := funext fun j => propext (getD_set_iff (by omega))
      have hsz : (L'.setIfInBounds 16 true).size = 17 := by rw [Array.size_setIfInBounds]; exact hLs
      refine wpOp_at ho (by obtain rfl := Option.some.inj ho; rfl) ?_
      obtain rfl := Option.some.inj ho
      have q15 := hS.h15 (hall ⟨15, Ground.data⟩ (by simp) rfl)
      subst q15
      have q11 := hS.h11 (hall ⟨11, Ground.data⟩ (by simp) rfl)
      subst q11
      have hw := hW.lst HCO.out (hall ⟨11, Ground.data⟩ (by simp) rfl) hnot
      have hn := hS.v16
      have hbl := hW.l0 hnot
      have k0 : W.cell? ⟨L, n * 2, none⟩ = some (.slice A0 p0.length cc0) := (World.cell?_of_block (a := ⟨L, n * 2, none⟩) hbl).trans l0
      have k1 : W.frozen? ⟨L, n * 2, none⟩ = false := (World.frozen?_of_block (a := ⟨L, n * 2, none⟩) hbl).trans fl0
      clear hi ho hall hun hS hW hnot hbl
      go_simp
      exact ⟨_, _, _, _, _, _, _, _, _, _, _, _, _, _, _, _, _, _, _, ⟨rfl, rfl, rfl, rfl, rfl, rfl, rfl, rfl, rfl, rfl, rfl, rfl, rfl, rfl, rfl⟩, hn, hw⟩
  · rintro L' a W ⟨hLs, q, B, g, cc, s2, s3, s4, s5, s6, s7, s8, s9, s10, s11, s12, s13, s14, s15, s16, rfl, hS, hW⟩ hr
    have hd := all_done hLs (by kernel_rfl) hr 17
    have hl : ∀ j, j < 17 → Ls L' j = True := fun j hj => propext ⟨fun _ => trivial, fun _ => hd j hj (by simpa using hj)⟩
    rw [hl 8 (by omega), hl 10 (by omega), hl 11 (by omega), hl 13 (by omega), hl 16 (by omega)] at hW
    have h2 := hW.l1 trivial
    have h3 : (w.setCell ⟨L, n * 2, none⟩ (.slice (some ⟨g, 0, none⟩) (p0.length + 1) cc)).cell? ⟨L, n * 2 + 1, none⟩ = some (.slice A row.length c) ∧ (w.setCell ⟨L, n * 2, none⟩ (.slice (some ⟨g, 0, none⟩) (p0.length + 1) cc)).frozen? ⟨L, n * 2 + 1, none⟩ = false := by
      clear hd hl hr hS hW h2
      constructor <;> go_simp
    have k0 : W.cell? ⟨L, n * 2 + 1, none⟩ = some (.slice A row.length c) := (World.cell?_of_block (a := ⟨L, n * 2 + 1, none⟩) h2).trans h3.1
    have k1 : W.frozen? ⟨L, n * 2 + 1, none⟩ = false := (World.frozen?_of_block (a := ⟨L, n * 2 + 1, none⟩) h2).trans h3.2
    obtain ⟨⟨own', e', h1, h2⟩, h3, h4⟩ := HFIN.out q B g cc W hW
    clear hd hl hr hS hW
    go_wp2
    go_end0
    exact ⟨rfl, own', e', h1, HR.out.keep h3, h2, h4⟩
end
end Go.Proofs.YtaohlmcgaggoeaaDoor.P
