/- Layer 5: what lies through the walk of the reference's Of. -/
import Derived.Test.YtlnhiogpjdhhbaaL05a
import Derived.Test.YtlnhiogpjdhhbaaP05q
import Derived.Test.YtlnhiogpjdhhbaaR05
namespace Go.Proofs.Ytlnhiogpjdhhbaa.P
open Go.RowKit Go.Proofs.YtlnhiogpjdhhbaaW.PrintWords Go.Proofs.YtlnhiogpjdhhbaaW.PrintLast Go.Proofs.YtlnhiogpjdhhbaaW.PrintMore
set_option linter.unusedVariables false
set_option linter.unusedSimpArgs false
structure Zo (base zs : Nat) (wz w : World) : Prop where
  os : w.os = wz.os
  tape : w.tape = wz.tape
  output : w.output = wz.output
  size : wz.heap.size ≤ w.heap.size
  block : ∀ k, k < wz.heap.size → (k < base ∨ zs ≤ k) → w.heap[k]? = wz.heap[k]?
def Mine (base zs ze : Nat) (v : Value) : Prop := ∀ k, v.ownBlock = some k → (base ≤ k ∧ k < zs) ∨ ze ≤ k
namespace Zo
variable {base zs : Nat} {wz w w' : World}
theorem refl (base zs : Nat) (w : World) : Zo base zs w w := ⟨rfl, rfl, rfl, Nat.le_refl _, fun _ _ _ => rfl⟩
theorem below (h : Zo base zs wz w) (hb : Below w.heap.size w w') : Zo base zs wz w' := ⟨hb.os.trans h.os, hb.tape.trans h.tape, hb.output.trans h.output, Nat.le_trans h.size hb.size, fun k hk hc => (hb.block k (by have := h.size; omega)).trans (h.block k hk hc)⟩
theorem grown (h : Zo base zs wz w) {v : Value} (hg : w.grownBy w' v.ownBlock) (hm : Mine base zs wz.heap.size v) : Zo base zs wz w' :=
  ⟨hg.os.trans h.os, hg.tape.trans h.tape, hg.output.trans h.output, Nat.le_trans h.size hg.size, fun k hk hc => (hg.block k (by have := h.size; omega) (fun e => by rcases hm k e.symm with h | h <;> omega)).trans (h.block k hk hc)⟩
theorem setCell (h : Zo base zs wz w) {p : Addr} (h1 : base ≤ p.block) (h2 : p.block < zs) (u : Value) : Zo base zs wz (w.setCell p u) :=
  ⟨h.os, h.tape, h.output, by have := h.size; simpa [World.setCell] using this, fun k hk hc => (Below.heap_setCell w p u k (fun e => by omega)).trans (h.block k hk hc)⟩
theorem drew (h : Zo base zs wz w) : Zo base zs wz w.drew := ⟨h.os, h.tape, h.output, h.size, h.block⟩
theorem toBelow (h : Zo base zs wz w) (hb : base ≤ wz.heap.size) : Below base wz w := ⟨h.os, h.tape, h.output, h.size, fun k hk => h.block k (by omega) (.inl hk)⟩
theorem C {α : Type} {d : Kd α} {A : Option Addr} {n : Nat} {xs : List α} (h : Zo base zs wz w) (hF : Kd.F d wz (fun k => k < base ∨ zs ≤ k) A n xs) : d.C w A n xs := Kd.F_now (Kd.F_step hF (fun k hk hlt => h.block k hlt hk))
end Zo
theorem Mine.nil (base zs ze : Nat) : Mine base zs ze (.slice none 0 0) := fun k hk => by simp [Value.ownBlock] at hk
theorem Mine.next {base zs ze : Nat} {v : Value} {g n c s : Nat} (h : Mine base zs ze v) (hg : v.ownBlock = some g ∨ s ≤ g) (hs : ze ≤ s) : Mine base zs ze (.slice (some ⟨g, 0, none⟩) n c) := fun k hk => by
  have : g = k := by simpa [Value.ownBlock] using hk
  subst this
  rcases hg with hg | hg
  · exact h g hg
  · exact .inr (by omega)
theorem app_rowZ {P : Program} (W : World) {n₀ : Nat} {i0 : TypeInfo} (T e : TypeId) (z : Value) (size bytes : Nat) (hT : P.underlying T = some (.slice e)) (hi : P.info? e = some i0) (hz0 : i0.zero = some z) (hz1 : i0.size = size) (hz2 : i0.bytes = bytes) (hz3 : z.cells.size = size) (hs : 0 < size)
    (v : Value) (n : Nat) (xs : List Value) (hrow : W.ownsRow n₀ e size v n xs) (hn₀ : n₀ ≤ W.heap.size) (us : List Value) (hu : us.length = size) (h1 : ∀ u ∈ us, u.oneCell' = true) (hl : (n + 1) * bytes ≤ 140737488355328) (hl2 : n ≤ 1000000000) :
    ∃ g c w', (AppS #[T, T] T #[v, .slice (some ⟨W.heap.size, 0, none⟩) 1 1]).run P (W.alloc (.cells us.toArray e)) = .ok (.slice (some ⟨g, 0, none⟩) (n + 1) c) w' ∧ w'.ownsRow n₀ e size (.slice (some ⟨g, 0, none⟩) (n + 1) c) (n + 1) (xs ++ us) ∧ W.grownBy w' v.ownBlock ∧ (v.ownBlock = some g ∨ W.heap.size ≤ g) := by
  obtain ⟨v', w', hr, h2, h3, _, h5⟩ := run_append_own_at (P := P) (W.alloc (.cells us.toArray e)) n₀ T T e i0 z size bytes hT hi hz0 hz1 hz2 hz3 hs v n xs (World.ownsRow.alloc hrow _) ⟨W.heap.size, 0, none⟩ 1 1 us (by rw [hu, Nat.one_mul])
    (fun j x hx => by
      rw [Addr.add_lit, Nat.zero_add]
      show (W.alloc (.cells us.toArray e)).cell? ⟨W.heap.size, j, none⟩ = some x
      rw [blk_cell (heap_alloc_new W _) j]
      simpa using hx) h1 (by unfold maxLen; omega) hl (by simp; omega)
  obtain ⟨g', cap', rfl⟩ := ownsRow_succ h2
  refine ⟨g', cap', w', hr, h2, ⟨h3.os, h3.tape, h3.output, by have := h3.size; simp at this; omega, fun k hk hne => (h3.block k (by simp; omega) hne).trans (Below.heap_alloc W _ k hk)⟩, ?_⟩
  rcases h5 with h5 | h5
  · exact .inl (by rw [← h5]; rfl)
  · have : g' = (W.alloc (.cells us.toArray e)).heap.size := by simpa [Value.ownBlock] using h5
    exact .inr (by simp at this; omega)
theorem app_rowZD {P : Program} (W : World) {n₀ : Nat} {i0 : TypeInfo} (T e : TypeId) (z : Value) (size bytes : Nat) (hT : P.underlying T = some (.slice e)) (hi : P.info? e = some i0) (hz0 : i0.zero = some z) (hz1 : i0.size = size) (hz2 : i0.bytes = bytes) (hz3 : z.cells.size = size) (hs : 0 < size)
    (v : Value) (n : Nat) (xs : List Value) (hrow : W.ownsRow n₀ e size v n xs) (hn₀ : n₀ ≤ W.heap.size) (us : List Value) (hu : us.length = size) (h1 : ∀ u ∈ us, u.oneCell' = true) (hl : (n + 1) * bytes ≤ 140737488355328) (hl2 : n ≤ 1000000000) :
    ∃ g c w', (AppS #[T, T] T #[v, .slice (some ⟨W.heap.size, 0, none⟩) 1 1]).run P (W.alloc (.cells us.toArray e)).drew = .ok (.slice (some ⟨g, 0, none⟩) (n + 1) c) w' ∧ w'.ownsRow n₀ e size (.slice (some ⟨g, 0, none⟩) (n + 1) c) (n + 1) (xs ++ us) ∧ W.grownBy w' v.ownBlock ∧ (v.ownBlock = some g ∨ W.heap.size ≤ g) := by
  obtain ⟨g, c, w', a, b, h, k⟩ := app_rowZ (P := P) W.drew T e z size bytes hT hi hz0 hz1 hz2 hz3 hs v n xs hrow.drew hn₀ us hu h1 hl hl2
  exact ⟨g, c, w', a, b, ⟨h.os, h.tape, h.output, h.size, h.block⟩, k⟩
theorem KeepI.ow' {base b : Nat} {w w' : World} {v : Value} {xs : List Value} (h : KeepI base w w') (ho : Ow w b 3 v xs) : Ow w' b 3 v xs := by
  rcases ho.2 with ⟨rfl, h0⟩ | ⟨g, cap, cur, rfl, hb, hg, hn, hm, hs, ht⟩
  · have : xs = [] := List.eq_nil_of_length_eq_zero h0
    subst this
    exact Ow.nil _ _ _
  · exact ⟨ho.1, .inr ⟨g, cap, cur, rfl, hb, (h.block g (blk_lt hg) (.inr ⟨_, _, hg⟩)).trans hg, hn, hm, hs, ht⟩⟩
theorem MapIs.num {w w' : World} {g base : Nat} {x : S27} {A : Option Addr} {c : Nat} {v1 v2 v3 : Value} {m : Mp} (h : MapIs w g base x A c v1 v2 v3 [(.slice none 0 0, [])] m) {b n : Nat} {v : Value} {xs : List Value} (ho : w.ownsRow b 3 1 v n xs) (hg : w.grownBy w' v.ownBlock) :
    MapIs w' g base x A c v1 v2 v3 [(.slice none 0 0, [])] m := by
  have keep : ∀ {e : TypeId} {size n : Nat} {u : Value} {ys : List Value}, w.ownsRow base e size u n ys → e ≠ 3 → w'.ownsRow base e size u n ys := fun hrow h1 => by
    refine row_keep hrow fun k hk hlt => hg.block k hlt fun e => ?_
    obtain ⟨_, _, cur, hc⟩ := row_blk hrow k hk
    exact row_ne ho hc (fun e => h1 e.symm) e.symm
  exact ⟨blk_grown h.blk hg (row_ne ho h.blk (by decide)), keep h.sets (by decide), keep h.scs (by decide), keep h.ars (by decide), h.lists, fun p hp => by
    rw [List.mem_singleton] at hp
    subst hp
    exact World.ownsRow_nil _ _ _ _, h.le⟩
theorem MapIs.undrew {w : World} {g base : Nat} {x : S27} {A : Option Addr} {c : Nat} {v1 v2 v3 : Value} {ps : List (Value × List Int)} {m : Mp} (h : MapIs w.drew g base x A c v1 v2 v3 ps m) : MapIs w g base x A c v1 v2 v3 ps m := ⟨h.blk, h.sets, h.scs, h.ars, h.lists, h.each, h.le⟩
theorem below_undrew {B : Nat} {a w : World} (h : Below B a w.drew) : Below B a w := ⟨h.os, h.tape, h.output, h.size, h.block⟩

theorem tr_refSimpleF (p : Nat → Prop) (x : S27) (A : Option Addr) (c : Nat) (w : World) (hf : formedT x = true) (hc : cntT x ≤ 1000000) (hl : x.f2.length ≤ c) (h : Kd.F k27 w p A x.f2.length x.f2) : Calls Try.prog 24 #[ndV x A c] w fun e w' =>
    ∃ A' c', e = .returned (ndV (simpleT x) A' c') ∧ (Kd.F k27 w' (fun k => p k ∨ w.heap.size ≤ k) A' (simpleT x).f2.length (simpleT x).f2 ∧ (simpleT x).f2.length ≤ c') ∧ Below w.heap.size w w' := by
  obtain ⟨k, hk⟩ := (refSimple_ev _ x (Nat.lt_succ_self _) hc hf).rounds
  refine (ostinatoref04_Simple.calls k _ _ _ _ _ p A c _ _ _ _ _ _ _ _ _ _ _ w (Kd.V_mk hl h) hk).mono ?_
  rintro e w' ⟨v5, rfl, ⟨A', c', rfl, hl, hF⟩, hb⟩
  exact ⟨A', c', rfl, ⟨hF, hl⟩, hb⟩
def ndL (x : S27) : List TN := (nodT [] 0 x).map (·.1)
def ptL (x : S27) : List (List Int) := (nodT [] 0 x).map (·.2)
theorem nodes_any (p : Nat → Prop) (x : S27) (A : Option Addr) (c : Nat) (w : World) (hc : cntT x ≤ 10000) (hl : x.f2.length ≤ c) (h : Kd.F k27 w p A x.f2.length x.f2) : Calls Try.prog 25 #[ndV x A c, .slice none 0 0, .int .i64 0] w fun e w' =>
    ∃ A1 c1 A2 c2, e = .returned (.tuple #[.slice A1 (ndL x).length c1, .slice A2 (ptL x).length c2]) ∧ Kd.F k27 w' (fun k => p k ∨ w.heap.size ≤ k) A1 (ndL x).length (ndL x) ∧ Kd.F (Kd.slice 3 (Kd.int .i64)) w' (fun k => p k ∨ w.heap.size ≤ k) A2 (ptL x).length (ptL x) ∧ Below w.heap.size w w' := by
  obtain ⟨k, hk⟩ := (nodes_ev _ x [] 0 (Nat.lt_succ_self _) (by simp; omega) (by omega)).rounds
  refine (ostinatoref05_Nodes.calls k _ _ _ _ _ p A c _ _ _ (fun _ => False) none 0 [] 0 _ _ w (Kd.V_mk hl h) (Kd.V_mk (Nat.le_refl 0) (Kd.F_nil _ _ _)) hk).mono ?_
  rintro e w' ⟨v0, v1, rfl, h0, h1, hb⟩
  obtain ⟨A1, c1, rfl⟩ := Kd.N_slice h0
  obtain ⟨A2, c2, rfl⟩ := Kd.N_slice h1
  have f0 := Kd.F_mono (ok' := fun k => p k ∨ w.heap.size ≤ k) (Kd.N_F h0) (fun k hk => hk.1.elim (fun h => h.elim .inl False.elim) .inr)
  have f1 := Kd.F_mono (ok' := fun k => p k ∨ w.heap.size ≤ k) (Kd.N_F h1) (fun k hk => hk.1.elim (fun h => h.elim .inl False.elim) .inr)
  exact ⟨A1, c1, A2, c2, rfl, f0, f1, hb⟩
theorem rcounts_any (x : S27) (A : Option Addr) (c : Nat) (w : World) (h : x.f0 = 4 → 0 ≤ x.f3 ∧ (x.f4 = -1 ∨ 0 ≤ x.f4)) (ht : Tr w x A c) : ∃ a b, (ctB x = true → a = (scO x).1 ∧ b = (scO x).2) ∧
    Calls Try.prog 16 #[ndV x A c] w fun e w' => e = .returned (.tuple #[.agg #[.int .i64 a, .int .i64 b], .bool (ctB x)]) ∧ Below w.heap.size w w' := by
  refine ⟨if x.f3 = 0 then 1 else x.f3, x.f4, fun hc => ⟨?_, rfl⟩, ?_⟩
  · have h4 : x.f0 = 4 := by
      unfold ctB at hc
      rw [Bool.and_eq_true] at hc
      exact eq_of_beq hc.1
    have h5 := h h4
    unfold scO mx
    simp only []
    split <;> split <;> omega
  · have e : (x.f0 == 4 && (decide (x.f4 > 1) || (decide (x.f4 < 0) && decide ((if x.f3 = 0 then 1 else x.f3) > 1)))) = ctB x := by
      by_cases h4 : x.f0 = 4
      · have h5 := h h4
        unfold ctB mx
        have e1 : decide (x.f4 < 0) = (x.f4 == -1) := by
          by_cases h6 : x.f4 = -1
          · simp [h6]
          · rw [decide_eq_false (by omega)]
            simp [h6]
        have e2 : decide ((if x.f3 = 0 then 1 else x.f3) > 1) = decide ((if (1 : Int) < x.f3 then x.f3 else 1) > 1) := by
          by_cases h6 : 1 < x.f3
          · rw [if_neg (by omega), if_pos h6]
          · rw [if_neg h6]
            split
            · rfl
            · rw [decide_eq_false (by omega)]; rfl
        rw [e1, e2]
      · have e0 : (x.f0 == 4) = false := by simp [h4]
        unfold ctB
        rw [e0]
        rfl
    rw [← e]
    exact rcounts_walk x A c w _ rfl

mutual
theorem nodT_formed : ∀ (up : List Int) (fr : Nat) (x : TN), formedT x = true → ∀ p ∈ nodT up fr x, formedT p.1 = true
  | up, fr, ⟨k, s, ps, lo, hi⟩, h, p, hp => by
    rw [nodT, List.mem_cons] at hp
    rcases hp with rfl | hp
    · exact h
    · exact nodL_formed _ _ ps (formedT_kind h).2.2.2.2.2.2 p hp
theorem nodL_formed : ∀ (path : List Int) (fr : Nat) (ps : List TN), (∀ y ∈ ps, formedT y = true) → ∀ p ∈ nodL path fr ps, formedT p.1 = true
  | path, fr, [], h, p, hp => by rw [nodL] at hp; cases hp
  | path, fr, q :: ps, h, p, hp => by
    rw [nodL, List.mem_append] at hp
    rcases hp with hp | hp
    · exact nodT_formed _ _ q (h q (List.mem_cons_self ..)) p hp
    · exact nodL_formed _ _ ps (fun y hy => h y (List.mem_cons_of_mem _ hy)) p hp
end
mutual
theorem nodT_path : ∀ (up : List Int) (fr : Nat) (x : TN), ∀ p ∈ nodT up fr x, p.2.length + 1 ≤ up.length + cntT x ∧ ∀ j ∈ p.2, j ∈ up ∨ ((fr : Int) ≤ j ∧ j < (fr : Int) + cntT x)
  | up, fr, ⟨k, s, ps, lo, hi⟩, p, hp => by
    rw [nodT, List.mem_cons] at hp
    rw [cntT]
    rcases hp with rfl | hp
    · exact ⟨by simp only []; omega, fun j hj => .inl hj⟩
    · obtain ⟨h1, h2⟩ := nodL_path (up ++ [(fr : Int)]) (fr + 1) ps p hp
      refine ⟨by rw [List.length_append] at h1; simp at h1; omega, fun j hj => ?_⟩
      rcases h2 j hj with h | h
      · rw [List.mem_append, List.mem_singleton] at h
        rcases h with h | rfl
        · exact .inl h
        · exact .inr ⟨by omega, by omega⟩
      · exact .inr ⟨by omega, by omega⟩
theorem nodL_path : ∀ (path : List Int) (fr : Nat) (ps : List TN), ∀ p ∈ nodL path fr ps, p.2.length + 1 ≤ path.length + cntL ps ∧ ∀ j ∈ p.2, j ∈ path ∨ ((fr : Int) ≤ j ∧ j < (fr : Int) + cntL ps)
  | path, fr, [], p, hp => by rw [nodL] at hp; cases hp
  | path, fr, q :: ps, p, hp => by
    rw [nodL, List.mem_append] at hp
    rw [cntL]
    rcases hp with hp | hp
    · obtain ⟨h1, h2⟩ := nodT_path path fr q p hp
      refine ⟨by omega, fun j hj => ?_⟩
      rcases h2 j hj with h | h
      · exact .inl h
      · exact .inr ⟨by omega, by omega⟩
    · obtain ⟨h1, h2⟩ := nodL_path path (fr + cntT q) ps p hp
      refine ⟨by omega, fun j hj => ?_⟩
      rcases h2 j hj with h | h
      · exact .inl h
      · exact .inr ⟨by omega, by omega⟩
end
end Go.Proofs.Ytlnhiogpjdhhbaa.P
