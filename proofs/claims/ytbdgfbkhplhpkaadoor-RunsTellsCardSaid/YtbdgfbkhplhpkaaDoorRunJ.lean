/- Runs put behind others: the program's put. -/
import Derived.Test.YtbdgfbkhplhpkaaDoorRunT
import Derived.Test.YtbdgfbkhplhpkaaDoorRunO
import Derived.RegionTactic
import Derived.Test.YtbdgfbkhplhpkaaDoorApp
namespace Go.Proofs.YtbdgfbkhplhpkaaDoor
open Go.RowKit
set_option linter.unusedVariables false
set_option linter.unusedSimpArgs false

attribute [local go_sem ↓] appS
/-- A run behind others. -/
def putR (rs : List Rn) (r : Rn) : List Rn :=
  if h : rs ≠ [] ∧ rB rs (rs.length - 1) = r.1 then rs.dropLast ++ [(r.1, rT rs (rs.length - 1) + r.2)] else rs ++ [r]
theorem rB_last (rs : List Rn) (r : Rn) : rB (rs ++ [r]) rs.length = r.1 ∧ rT (rs ++ [r]) rs.length = r.2 := by
  simp [rB, rT, List.getD_eq_getElem?_getD]
theorem rB_left (rs ss : List Rn) {i : Nat} (h : i < rs.length) : rB (rs ++ ss) i = rB rs i ∧ rT (rs ++ ss) i = rT rs i := by
  simp [rB, rT, List.getD_eq_getElem?_getD, List.getElem?_append_left h]
theorem snoc_of (rs : List Rn) (h : rs ≠ []) : rs = rs.dropLast ++ [(rB rs (rs.length - 1), rT rs (rs.length - 1))] := by
  have h1 := List.dropLast_concat_getLast h
  have h2 : rs.getLast h = (rB rs (rs.length - 1), rT rs (rs.length - 1)) := by
    rw [List.getLast_eq_getElem]
    have hl : rs.length - 1 < rs.length := by
      cases rs with
      | nil => exact absurd rfl h
      | cons a l => simp
    simp [rB, rT, List.getD_eq_getElem?_getD, List.getElem?_eq_getElem hl]
  rw [← h2, h1]
theorem rcells_set (rs : List Rn) (b : UInt8) (T T' : Int) : (rcells (rs ++ [(b, T)])).set (rs.length * 2 + 1) (.int .i64 T') = rcells (rs ++ [(b, T')]) := by
  rw [rcells_append, rcells_append]
  have hl := rcells_length rs
  rw [List.set_append_right _ _ (by omega)]
  congr 1
  rw [show rs.length * 2 + 1 - (rcells rs).length = 1 by omega]
  rfl
/-- The last run's count is turned, in place. -/
theorem OwR.setLast {w : World} {base g c : Nat} {rs : List Rn} {b : UInt8} {T : Int} (h : OwR w base (.slice (some ⟨g, 0, none⟩) (rs.length + 1) c) (rs ++ [(b, T)])) (T' : Int) :
    OwR (w.setCell ⟨g, rs.length * 2 + 1, none⟩ (.int .i64 T')) base (.slice (some ⟨g, 0, none⟩) (rs.length + 1) c) (rs ++ [(b, T')]) := by
  refine ⟨by rw [rcells_length], ?_⟩
  rcases h.2 with ⟨hv, _⟩ | ⟨g', cap, cur, hv, hb, hg, hn, hm, hs, ht⟩
  · cases hv
  · injection hv with h1 h2 h3
    injection h1 with h1
    injection h1 with h1 _ _
    subst h1 h3
    refine .inr ⟨g, c, cur.setIfInBounds (rs.length * 2 + 1) (.int .i64 T'), by simp, hb, blk_set hg _ _, by simpa using hn, hm, by simpa using hs, ?_⟩
    rw [Array.toList_setIfInBounds, List.take_set]
    have hl : (rs ++ [(b, T)]).length = (rs ++ [(b, T')]).length := by simp
    rw [← hl, ht, rcells_set]
theorem putR_nil (r : Rn) : putR [] r = [r] := rfl
theorem putR_same (ss : List Rn) (b : UInt8) (T T' : Int) : putR (ss ++ [(b, T)]) (b, T') = ss ++ [(b, T + T')] := by
  have h := rB_last ss (b, T)
  unfold putR
  rw [dif_pos ⟨by simp, by simpa using h.1⟩]
  simp [h.2]
theorem putR_other (ss : List Rn) (b b' : UInt8) (T T' : Int) (hne : b ≠ b') : putR (ss ++ [(b, T)]) (b', T') = ss ++ [(b, T)] ++ [(b', T')] := by
  have h := rB_last ss (b, T)
  unfold putR
  rw [dif_neg]
  rintro ⟨_, e⟩
  simp [h.1] at e
  exact hne e
/-- The slice's form. -/
theorem OwR.form {w : World} {base : Nat} {v : Value} {ss : List Rn} {r : Rn} (h : OwR w base v (ss ++ [r])) : ∃ g c, v = .slice (some ⟨g, 0, none⟩) (ss.length + 1) c ∧ base ≤ g ∧ w.cell? ⟨g, ss.length * 2, none⟩ = some (.int .u8 (r.1.toNat : Int)) ∧ w.cell? ⟨g, ss.length * 2 + 1, none⟩ = some (.int .i64 r.2) ∧ w.frozen? ⟨g, ss.length * 2 + 1, none⟩ = false := by
  rcases h.2 with ⟨_, h0⟩ | ⟨g, cap, cur, hv, hb, hg, hn, hm, hs, ht⟩
  · simp at h0
  · have k := World.ownsRow.cells h (g := g) (by rw [hv]; rfl)
    obtain ⟨h1, h2⟩ := rcells_get (ss ++ [r]) ss.length (by simp)
    rw [(rB_last ss r).1] at h1
    rw [(rB_last ss r).2] at h2
    have e1 := k _ _ h1
    have e2 := k _ _ h2
    rw [Addr.add_lit, Nat.zero_add] at e1 e2
    exact ⟨g, cap, by rw [hv]; simp, hb, e1, e2, blk_frozen hg _⟩
set_option maxHeartbeats 1000000 in
theorem put_same (ss : List Rn) (b : UInt8) (T T' : Int) (base : Nat) (v : Value) (w : World) (h : OwR w base v (ss ++ [(b, T)])) (hbase : base ≤ w.heap.size) (hs : I64 (T + T')) (hl : ss.length ≤ 100000) :
    Calls Tryd.prog 18 #[v, .agg #[.int .u8 (b.toNat : Int), .int .i64 T']] w fun e w' => ∃ v', e = .returned v' ∧ OwR w' base v' (ss ++ [(b, T + T')]) ∧ Below base w w' := by
  obtain ⟨g, c, rfl, hg, c0, c1, f1⟩ := h.form
  have hlt := World.block_lt_of_cell? w _ c0
  have hb0 := (Below.refl base w).alloc hbase (.cells #[.int .u8 (b.toNat : Int), .int .i64 T'] 31)
  have h1 := h.alloc (.cells #[.int .u8 (b.toNat : Int), .int .i64 T'] 31)
  unfold I64 at hs
  have hw1 : IntKind.i64.wrap (((ss.length + 1 : Nat) : Int) - 1) = (ss.length : Int) := by rw [IntKind.wrap_i64]; omega
  have hw2 : IntKind.i64.wrap (T + T') = T + T' := by rw [IntKind.wrap_i64]; omega
  have hw3 : IntKind.i64.wrap ((ss.length : Int) + 1 - 1) = (ss.length : Int) := by rw [IntKind.wrap_i64]; omega
  have d1 : decide (((ss.length + 1 : Nat) : Int) > 0) = true := decide_eq_true (by omega)
  obtain ⟨B, hB⟩ : ∃ B, B = (b.toNat : Int) := ⟨_, rfl⟩
  rw [← hB] at c0 hb0 h1 ⊢
  have d2 : (B == B) = true := by simp
  clear hB h
  go_enter Tryd.func18, Tryd.ntmps18
  go_wp2
  go_quiet (fail)
  obtain ⟨w2, hw⟩ : ∃ w2, w2 = (w.alloc (.cells #[.int .u8 B, .int .i64 T'] 31)).drewN nq := ⟨_, rfl⟩
  have hbx := heap_alloc_new w (.cells #[.int .u8 B, .int .i64 T'] 31)
  have cA : w2.cell? ⟨g, ss.length * 2 + 1, none⟩ = some (.int .i64 T) := by rw [hw]; exact (Below.cell ((Below.refl _ w).alloc (Nat.le_refl _) _) (by exact hlt)).trans c1
  have cF : w2.frozen? ⟨g, ss.length * 2 + 1, none⟩ = false := by rw [hw]; exact (h1.form.elim fun g' hx => by obtain ⟨c', e, _, _, _, hf⟩ := hx; injection e with e _ _; injection e with e; injection e with e _ _; subst e; exact hf)
  have cB : w2.cell? ⟨w.heap.size, 1, none⟩ = some (.int .i64 T') := by rw [hw]; exact (blk_cell hbx 1).trans rfl
  have h2 : OwR w2 base (.slice (some ⟨g, 0, none⟩) (ss.length + 1) c) (ss ++ [(b, T)]) := by rw [hw]; exact h1
  have hb2 : Below base w w2 := by rw [hw]; exact below_drewN hb0 nq
  rw [← hw]
  clear hw hbx h1 hb0 c0 c1 f1
  go_wp2
  go_region
  all_goals
    go_wp2
    go_ret
    exact ⟨_, rfl, World.ownsRow.drew (h2.setLast (T + T')), (hb2.setCell (by exact hg) _).drew⟩
set_option maxHeartbeats 1000000 in
theorem put_other (ss : List Rn) (b b' : UInt8) (T T' : Int) (hne : b ≠ b') (base : Nat) (v : Value) (w : World) (h : OwR w base v (ss ++ [(b, T)])) (hbase : base ≤ w.heap.size) (hl : ss.length ≤ 90000) :
    Calls Tryd.prog 18 #[v, .agg #[.int .u8 (b'.toNat : Int), .int .i64 T']] w fun e w' => ∃ v', e = .returned v' ∧ OwR w' base v' (ss ++ [(b, T)] ++ [(b', T')]) ∧ Below base w w' := by
  obtain ⟨g, c, rfl, hg, c0, c1, f1⟩ := h.form
  have hlt := World.block_lt_of_cell? w _ c0
  have hb0 := (Below.refl base w).alloc hbase (.cells #[.int .u8 (b'.toNat : Int), .int .i64 T'] 31)
  have h1 := h.alloc (.cells #[.int .u8 (b'.toNat : Int), .int .i64 T'] 31)
  have hw1 : IntKind.i64.wrap (((ss.length + 1 : Nat) : Int) - 1) = (ss.length : Int) := by rw [IntKind.wrap_i64]; omega
  have hw3 : IntKind.i64.wrap ((ss.length : Int) + 1 - 1) = (ss.length : Int) := by rw [IntKind.wrap_i64]; omega
  have d1 : decide (((ss.length + 1 : Nat) : Int) > 0) = true := decide_eq_true (by omega)
  have hBB : (((b.toNat : Int)) == ((b'.toNat : Int))) = false := by
    rw [beq_eq_false_iff_ne]
    intro e
    exact hne (UInt8.toNat_inj.1 (by omega))
  obtain ⟨B, hB⟩ : ∃ B, B = (b.toNat : Int) := ⟨_, rfl⟩
  obtain ⟨B', hB'⟩ : ∃ B', B' = (b'.toNat : Int) := ⟨_, rfl⟩
  rw [← hB] at c0 hBB
  rw [← hB'] at hb0 h1 hBB ⊢
  have HB' := Lib.hid hB'
  clear hB hB' h
  obtain ⟨i0, hi, hz0, hz1, hz2⟩ := info_parts infoRun
  go_enter Tryd.func18, Tryd.ntmps18
  go_wp2
  go_quiet (fail)
  obtain ⟨w2, hw⟩ : ∃ w2, w2 = (w.alloc (.cells #[.int .u8 B', .int .i64 T'] 31)).drewN nq := ⟨_, rfl⟩
  have hbx := heap_alloc_new w (.cells #[.int .u8 B', .int .i64 T'] 31)
  have cA : w2.cell? ⟨w.heap.size, 0, none⟩ = some (.int .u8 B') := by rw [hw]; exact (blk_cell hbx 0).trans rfl
  have cB : w2.cell? ⟨w.heap.size, 1, none⟩ = some (.int .i64 T') := by rw [hw]; exact (blk_cell hbx 1).trans rfl
  have h2 : OwR w2 base (.slice (some ⟨g, 0, none⟩) (ss.length + 1) c) (ss ++ [(b, T)]) := by rw [hw]; exact h1
  have hb2 : Below base w w2 := by rw [hw]; exact below_drewN hb0 nq
  rw [← hw]
  clear hw hbx h1 hb0 c0 c1 f1
  have h2' : w2.ownsRow base 31 2 (.slice (some ⟨g, 0, none⟩) (ss.length + 1) c) (ss.length + 1) (rcells (ss ++ [(b, T)])) := by
    have := h2
    unfold OwR at this
    simpa using this
  obtain ⟨g3, c3, w3, hr3, hq3, hg3⟩ := app_row (P := Tryd.prog) w2 24 31 _ 2 16 Tryd.underlying24 hi hz0 hz1 hz2 rfl (by omega) (.slice (some ⟨g, 0, none⟩) (ss.length + 1) c) (ss.length + 1) (rcells (ss ++ [(b, T)])) h2' (by have := hb2.size; omega) [.int .u8 B', .int .i64 T'] rfl (by simp [Value.oneCell']) (by omega) (by omega)
  clear h2 h2'
  go_wp2
  go_ret
  refine ⟨_, rfl, ?_, ?_⟩
  · unfold OwR
    have e : (ss ++ [(b, T)] ++ [(b', T')]).length = ss.length + 1 + 1 := by simp
    rw [e, rcells_append]
    simpa [rcells, ← HB'.out] using hq3
  · exact hb2.grown hg3 (by have := hb2.size; omega) (fun k e => by simp [Value.ownBlock] at e; omega)
set_option maxHeartbeats 1000000 in
theorem put_first (b' : UInt8) (T' : Int) (base : Nat) (v : Value) (w : World) (h : OwR w base v []) (hbase : base ≤ w.heap.size) :
    Calls Tryd.prog 18 #[v, .agg #[.int .u8 (b'.toNat : Int), .int .i64 T']] w fun e w' => ∃ v', e = .returned v' ∧ OwR w' base v' [(b', T')] ∧ Below base w w' := by
  have hb0 := (Below.refl base w).alloc hbase (.cells #[.int .u8 (b'.toNat : Int), .int .i64 T'] 31)
  have h1 := h.alloc (.cells #[.int .u8 (b'.toNat : Int), .int .i64 T'] 31)
  obtain ⟨A, c, rfl, _, hA⟩ := h.sl
  obtain ⟨B', hB'⟩ : ∃ B', B' = (b'.toNat : Int) := ⟨_, rfl⟩
  rw [← hB'] at hb0 h1 ⊢
  have HB' := Lib.hid hB'
  clear hB' h
  obtain ⟨i0, hi, hz0, hz1, hz2⟩ := info_parts infoRun
  rw [show ([] : List Rn).length = 0 from rfl] at *
  go_enter Tryd.func18, Tryd.ntmps18
  go_wp2
  go_quiet (fail)
  obtain ⟨w2, hw⟩ : ∃ w2, w2 = (w.alloc (.cells #[.int .u8 B', .int .i64 T'] 31)).drewN nq := ⟨_, rfl⟩
  have hbx := heap_alloc_new w (.cells #[.int .u8 B', .int .i64 T'] 31)
  have cA : w2.cell? ⟨w.heap.size, 0, none⟩ = some (.int .u8 B') := by rw [hw]; exact (blk_cell hbx 0).trans rfl
  have cB : w2.cell? ⟨w.heap.size, 1, none⟩ = some (.int .i64 T') := by rw [hw]; exact (blk_cell hbx 1).trans rfl
  have h2 : OwR w2 base (.slice A 0 c) [] := by rw [hw]; exact h1
  have hb2 : Below base w w2 := by rw [hw]; exact below_drewN hb0 nq
  rw [← hw]
  clear hw hbx h1 hb0
  obtain ⟨g3, c3, w3, hr3, hq3, hg3⟩ := app_row (P := Tryd.prog) w2 24 31 _ 2 16 Tryd.underlying24 hi hz0 hz1 hz2 rfl (by omega) (.slice A 0 c) 0 [] h2 (by have := hb2.size; omega) [.int .u8 B', .int .i64 T'] rfl (by simp [Value.oneCell']) (by omega) (by omega)
  have hlo := h2.lt
  clear h2
  go_wp2
  go_ret
  refine ⟨_, rfl, ?_, ?_⟩
  · unfold OwR
    simpa [rcells, ← HB'.out] using hq3
  · exact hb2.grown hg3 (by have := hb2.size; omega) (fun k e => (hlo k e).1)
theorem put_any (rs : List Rn) (r : Rn) (base : Nat) (v : Value) (w : World) (h : OwR w base v rs) (hbase : base ≤ w.heap.size) (hs : ∀ x ∈ rs, I64 (x.2 + r.2)) (hl : rs.length ≤ 90000) :
    Calls Tryd.prog 18 #[v, .agg #[.int .u8 (r.1.toNat : Int), .int .i64 r.2]] w fun e w' => ∃ v', e = .returned v' ∧ OwR w' base v' (putR rs r) ∧ Below base w w' := by
  obtain ⟨b', T'⟩ := r
  by_cases h0 : rs = []
  · subst h0
    exact put_first b' T' base v w h hbase
  · obtain ⟨ss, ⟨b, T⟩, rfl⟩ : ∃ ss x, rs = ss ++ [x] := ⟨_, _, snoc_of rs h0⟩
    have hl' : ss.length ≤ 90000 := by simp at hl; omega
    by_cases hb : b = b'
    · subst hb
      rw [putR_same]
      exact put_same ss b T T' base v w h hbase (hs (b, T) (by simp)) (by omega)
    · rw [putR_other ss b b' T T' hb]
      exact put_other ss b b' T T' hb base v w h hbase hl'
end Go.Proofs.YtbdgfbkhplhpkaaDoor
