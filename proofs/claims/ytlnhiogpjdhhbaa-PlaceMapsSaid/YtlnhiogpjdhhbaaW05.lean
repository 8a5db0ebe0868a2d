/- Layer 5: the map's block, what is appended to it, what stays. -/
import Derived.Test.YtlnhiogpjdhhbaaApp
import Derived.Test.YtlnhiogpjdhhbaaP05
namespace Go.Proofs.Ytlnhiogpjdhhbaa.P
open Go.RowKit Go.Proofs.YtlnhiogpjdhhbaaW.PrintWords Go.Proofs.YtlnhiogpjdhhbaaW.PrintLast Go.Proofs.YtlnhiogpjdhhbaaW.PrintMore

def clsC (l : List S24) : List Value := l.flatMap fun s => [.int .u64 s.f0, .int .u64 s.f1, .int .u64 s.f2, .int .u64 s.f3]
def scC (l : List (Int × Int)) : List Value := l.flatMap fun s => [.int .i64 s.1, .int .i64 s.2]
def ints (l : List Int) : List Value := l.map (Value.int .i64)
def nC8 (x : S27) (A : Option Addr) (c : Nat) : List Value := [.int .i64 x.f0, .int .u64 x.f1.f0, .int .u64 x.f1.f1, .int .u64 x.f1.f2, .int .u64 x.f1.f3, .slice A x.f2.length c, .int .i64 x.f3, .int .i64 x.f4]
structure KeepI (base : Nat) (w w' : World) : Prop where
  os : w'.os = w.os
  tape : w'.tape = w.tape
  output : w'.output = w.output
  size : w.heap.size ≤ w'.heap.size
  block : ∀ k, k < w.heap.size → (k < base ∨ ∃ cur fz, w.heap[k]? = some (.cells cur 3 fz)) → w'.heap[k]? = w.heap[k]?
namespace KeepI
variable {base : Nat} {a w w' : World}
theorem refl (base : Nat) (w : World) : KeepI base w w := ⟨rfl, rfl, rfl, Nat.le_refl _, fun _ _ _ => rfl⟩
theorem trans (h : KeepI base a w) (k : KeepI base w w') : KeepI base a w' :=
  ⟨k.os.trans h.os, k.tape.trans h.tape, k.output.trans h.output, Nat.le_trans h.size k.size, fun i hi hc => by
    have e := h.block i hi hc
    refine (k.block i (by have := h.size; omega) ?_).trans e
    rcases hc with hc | ⟨cur, fz, hc⟩
    · exact .inl hc
    · exact .inr ⟨cur, fz, e.trans hc⟩⟩
theorem of_below (h : Below w.heap.size w w') : KeepI base w w' := ⟨h.os, h.tape, h.output, h.size, fun k hk _ => h.block k hk⟩
theorem of_grown {row : Option Nat} {e : TypeId} (h : w.grownBy w' row) (hr : ∀ k, row = some k → base ≤ k ∧ ∃ cur fz, w.heap[k]? = some (.cells cur e fz)) (he : e ≠ 3) : KeepI base w w' :=
  ⟨h.os, h.tape, h.output, h.size, fun k hk hc => h.block k hk fun e' => by
    obtain ⟨h1, cur, fz, h2⟩ := hr k e'.symm
    rcases hc with hc | ⟨cur', fz', hc⟩
    · omega
    · rw [h2] at hc
      injection hc with hc
      injection hc with _ ht _
      exact he ht⟩
theorem setCell {p : Addr} {e : TypeId} {cs : Array Value} {fz : Nat × Nat} (hp : base ≤ p.block) (hg : w.heap[p.block]? = some (.cells cs e fz)) (he : e ≠ 3) (u : Value) : KeepI base w (w.setCell p u) :=
  ⟨rfl, rfl, rfl, by simp [World.setCell], fun k hk hc => Below.heap_setCell w p u k fun e' => by
    subst e'
    rcases hc with hc | ⟨cur', fz', hc⟩
    · omega
    · rw [hg] at hc
      injection hc with hc
      injection hc with _ ht _
      exact he ht⟩
theorem below (h : KeepI base w w') (hb : base ≤ w.heap.size) : Below base w w' := ⟨h.os, h.tape, h.output, h.size, fun k hk => h.block k (by omega) (.inl hk)⟩
theorem ow {v : Value} {xs : List Value} (h : KeepI base w w') (ho : Ow w base 3 v xs) : Ow w' base 3 v xs := by
  rcases ho.2 with ⟨rfl, h0⟩ | ⟨g, cap, cur, rfl, hb, hg, hn, hm, hs, ht⟩
  · have : xs = [] := List.eq_nil_of_length_eq_zero h0
    subst this
    exact Ow.nil _ _ _
  · exact ⟨ho.1, .inr ⟨g, cap, cur, rfl, hb, (h.block g (blk_lt hg) (.inr ⟨_, _, hg⟩)).trans hg, hn, hm, hs, ht⟩⟩
end KeepI
theorem row_blk {w : World} {base : Nat} {e : TypeId} {size n : Nat} {v : Value} {xs : List Value} (h : w.ownsRow base e size v n xs) : ∀ k, v.ownBlock = some k → base ≤ k ∧ k < w.heap.size ∧ ∃ cur, w.heap[k]? = some (.cells cur e) := by
  intro k hk
  rcases h.2 with ⟨rfl, _⟩ | ⟨g, cap, cur, rfl, hb, hg, _⟩
  · simp [Value.ownBlock] at hk
  · have : g = k := by simpa [Value.ownBlock] using hk
    subst this
    exact ⟨hb, blk_lt hg, cur, hg⟩
theorem row_ne {w : World} {base : Nat} {e : TypeId} {size n : Nat} {v : Value} {xs : List Value} (h : w.ownsRow base e size v n xs) {g : Nat} {cs : Array Value} {t : TypeId} {fz : Nat × Nat} (hg : w.heap[g]? = some (.cells cs t fz)) (hne : e ≠ t) : v.ownBlock ≠ some g := fun hk => by
  obtain ⟨_, _, cur, h2⟩ := row_blk h g hk
  rw [hg] at h2
  injection h2 with h2
  injection h2 with _ ht _
  exact hne ht.symm
theorem row_keep {w w' : World} {base : Nat} {e : TypeId} {size n : Nat} {v : Value} {xs : List Value} (h : w.ownsRow base e size v n xs) (hk : ∀ k, v.ownBlock = some k → k < w.heap.size → w'.heap[k]? = w.heap[k]?) : w'.ownsRow base e size v n xs := by
  refine ⟨h.1, ?_⟩
  rcases h.2 with h0 | ⟨g, cap, cur, rfl, hb, hg, hr⟩
  · exact .inl h0
  · exact .inr ⟨g, cap, cur, rfl, hb, (hk g rfl (blk_lt hg)).trans hg, hr⟩

structure MapIs (w : World) (g base : Nat) (x : S27) (A : Option Addr) (c : Nat) (v1 v2 v3 : Value) (ps : List (Value × List Int)) (m : Mp) : Prop where
  blk : w.heap[g]? = some (.cells (nC8 x A c ++ [v1, v2, v3]).toArray 34)
  sets : w.ownsRow base 24 4 v1 m.sets.length (clsC m.sets)
  scs : w.ownsRow base 45 2 v2 m.scs.length (scC m.scs)
  ars : w.ownsRow base 42 1 v3 ps.length (ps.map (·.1))
  lists : ps.map (·.2) = m.ars
  each : ∀ p ∈ ps, Ow w base 3 p.1 (ints p.2)
  le : base ≤ g
namespace MapIs
variable {w w' : World} {g base : Nat} {x : S27} {A : Option Addr} {c : Nat} {v1 v2 v3 : Value} {ps : List (Value × List Int)} {m : Mp}
theorem below (h : MapIs w g base x A c v1 v2 v3 ps m) (hb : Below w.heap.size w w') : MapIs w' g base x A c v1 v2 v3 ps m :=
  ⟨blk_below h.blk hb, row_keep h.sets fun k _ hk => hb.block k hk, row_keep h.scs fun k _ hk => hb.block k hk, row_keep h.ars fun k _ hk => hb.block k hk, h.lists, fun p hp => (KeepI.of_below hb).ow (h.each p hp), h.le⟩
theorem size (h : MapIs w g base x A c v1 v2 v3 ps m) : base ≤ w.heap.size := by have := blk_lt h.blk; have := h.le; omega
theorem addSet (h : MapIs w g base x A c v1 v2 v3 ps m) {v' : Value} {s : S24} (hr : w'.ownsRow base 24 4 v' (m.sets.length + 1) (clsC m.sets ++ [.int .u64 s.f0, .int .u64 s.f1, .int .u64 s.f2, .int .u64 s.f3])) (hg : w.grownBy w' v1.ownBlock) :
    MapIs (w'.setCell ⟨g, 8, none⟩ v') g base x A c v' v2 v3 ps ⟨m.sets ++ [s], m.scs, m.ars⟩ ∧ KeepI base w (w'.setCell ⟨g, 8, none⟩ v') := by
  have n1 := row_ne h.sets h.blk (by decide)
  have b' := blk_grown h.blk hg n1
  have k1 : KeepI base w w' := KeepI.of_grown hg (fun k e => by obtain ⟨a, _, cur, hc⟩ := row_blk h.sets k e; exact ⟨a, cur, _, hc⟩) (by decide)
  have k2 : KeepI base w' (w'.setCell ⟨g, 8, none⟩ v') := KeepI.setCell (p := ⟨g, 8, none⟩) h.le b' (by decide) _
  have keep : ∀ {e : TypeId} {size n : Nat} {v : Value} {xs : List Value}, w.ownsRow base e size v n xs → e ≠ 24 → e ≠ 34 → (w'.setCell ⟨g, 8, none⟩ v').ownsRow base e size v n xs := fun hrow h1 h2 => by
    refine row_keep hrow fun k hk hlt => ?_
    rw [Below.heap_setCell w' ⟨g, 8, none⟩ v' k (fun e => row_ne hrow h.blk h2 (by rw [hk, e])), hg.block k hlt]
    intro e
    obtain ⟨_, _, cur, hc⟩ := row_blk h.sets k e.symm
    exact row_ne hrow hc h1 hk
  refine ⟨⟨?_, ?_, keep h.scs (by decide) (by decide), keep h.ars (by decide) (by decide), h.lists, fun p hp => (k1.trans k2).ow (h.each p hp), h.le⟩, k1.trans k2⟩
  · exact blk_set b' 8 v'
  · refine row_keep (w := w') ?_ fun k hk _ => Below.heap_setCell w' ⟨g, 8, none⟩ v' k (fun e => row_ne hr b' (by decide) (by rw [hk, e]))
    simpa [clsC] using hr
theorem addSc (h : MapIs w g base x A c v1 v2 v3 ps m) {v' : Value} {s : Int × Int} (hr : w'.ownsRow base 45 2 v' (m.scs.length + 1) (scC m.scs ++ [.int .i64 s.1, .int .i64 s.2])) (hg : w.grownBy w' v2.ownBlock) :
    MapIs (w'.setCell ⟨g, 9, none⟩ v') g base x A c v1 v' v3 ps ⟨m.sets, m.scs ++ [s], m.ars⟩ ∧ KeepI base w (w'.setCell ⟨g, 9, none⟩ v') := by
  have n1 := row_ne h.scs h.blk (by decide)
  have b' := blk_grown h.blk hg n1
  have k1 : KeepI base w w' := KeepI.of_grown hg (fun k e => by obtain ⟨a, _, cur, hc⟩ := row_blk h.scs k e; exact ⟨a, cur, _, hc⟩) (by decide)
  have k2 : KeepI base w' (w'.setCell ⟨g, 9, none⟩ v') := KeepI.setCell (p := ⟨g, 9, none⟩) h.le b' (by decide) _
  have keep : ∀ {e : TypeId} {size n : Nat} {v : Value} {xs : List Value}, w.ownsRow base e size v n xs → e ≠ 45 → e ≠ 34 → (w'.setCell ⟨g, 9, none⟩ v').ownsRow base e size v n xs := fun hrow h1 h2 => by
    refine row_keep hrow fun k hk hlt => ?_
    rw [Below.heap_setCell w' ⟨g, 9, none⟩ v' k (fun e => row_ne hrow h.blk h2 (by rw [hk, e])), hg.block k hlt]
    intro e
    obtain ⟨_, _, cur, hc⟩ := row_blk h.scs k e.symm
    exact row_ne hrow hc h1 hk
  refine ⟨⟨?_, keep h.sets (by decide) (by decide), ?_, keep h.ars (by decide) (by decide), h.lists, fun p hp => (k1.trans k2).ow (h.each p hp), h.le⟩, k1.trans k2⟩
  · exact blk_set b' 9 v'
  · refine row_keep (w := w') ?_ fun k hk _ => Below.heap_setCell w' ⟨g, 9, none⟩ v' k (fun e => row_ne hr b' (by decide) (by rw [hk, e]))
    simpa [scC] using hr
theorem addAr (h : MapIs w g base x A c v1 v2 v3 ps m) {v' u : Value} {l : List Int} (ho : Ow w base 3 u (ints l)) (hr : w'.ownsRow base 42 1 v' (ps.length + 1) (ps.map (·.1) ++ [u])) (hg : w.grownBy w' v3.ownBlock) :
    MapIs (w'.setCell ⟨g, 10, none⟩ v') g base x A c v1 v2 v' (ps ++ [(u, l)]) ⟨m.sets, m.scs, m.ars ++ [l]⟩ ∧ KeepI base w (w'.setCell ⟨g, 10, none⟩ v') := by
  have n1 := row_ne h.ars h.blk (by decide)
  have b' := blk_grown h.blk hg n1
  have k1 : KeepI base w w' := KeepI.of_grown hg (fun k e => by obtain ⟨a, _, cur, hc⟩ := row_blk h.ars k e; exact ⟨a, cur, _, hc⟩) (by decide)
  have k2 : KeepI base w' (w'.setCell ⟨g, 10, none⟩ v') := KeepI.setCell (p := ⟨g, 10, none⟩) h.le b' (by decide) _
  have keep : ∀ {e : TypeId} {size n : Nat} {v : Value} {xs : List Value}, w.ownsRow base e size v n xs → e ≠ 42 → e ≠ 34 → (w'.setCell ⟨g, 10, none⟩ v').ownsRow base e size v n xs := fun hrow h1 h2 => by
    refine row_keep hrow fun k hk hlt => ?_
    rw [Below.heap_setCell w' ⟨g, 10, none⟩ v' k (fun e => row_ne hrow h.blk h2 (by rw [hk, e])), hg.block k hlt]
    intro e
    obtain ⟨_, _, cur, hc⟩ := row_blk h.ars k e.symm
    exact row_ne hrow hc h1 hk
  refine ⟨⟨?_, keep h.sets (by decide) (by decide), keep h.scs (by decide) (by decide), ?_, by simp [h.lists], fun p hp => ?_, h.le⟩, k1.trans k2⟩
  · exact blk_set b' 10 v'
  · refine row_keep (w := w') ?_ fun k hk _ => Below.heap_setCell w' ⟨g, 10, none⟩ v' k (fun e => row_ne hr b' (by decide) (by rw [hk, e]))
    simpa using hr
  · rcases List.mem_append.1 hp with hp | hp
    · exact (k1.trans k2).ow (h.each p hp)
    · rw [List.mem_singleton] at hp
      subst hp
      exact (k1.trans k2).ow ho
end MapIs
end Go.Proofs.Ytlnhiogpjdhhbaa.P
