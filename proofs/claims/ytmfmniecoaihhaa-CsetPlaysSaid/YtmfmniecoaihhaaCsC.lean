/- The walks of package cset's Clone and of slices.Clone. -/
import Derived.Test.YtmfmniecoaihhaaCsY
namespace Go.Proofs.Ytmfmniecoaihhaa
open Go.RowKit

theorem sclone_any (xs : List Value) (A : Option Addr) (c : Nat) (w : World) (hs : Sl w A c xs) (h1 : ∀ u ∈ xs, u.oneCell' = true) (hn : xs.length ≤ 100000) :
    Calls Try.prog 29 #[.slice A xs.length c] w fun e w' => ∃ A' c', e = .returned (.slice A' xs.length c') ∧ Qu w' w.heap.size 2 (.slice A' xs.length c') xs ∧ Below w.heap.size w w' := by
  cases A with
  | none =>
    have h0 := hs.nil rfl
    have h1 := hs.cap
    have hl : xs = [] := List.eq_nil_of_length_eq_zero (by omega)
    subst h0 hl
    have he : ∀ w : World, (binOp .eql 32 (.slice none 0 0) (.slice none 0 0)).run Try.prog w = .ok (.bool true) w := fun _ => by kernel_rfl
    rw [show ([] : List Value).length = 0 from rfl]
    go_enter Try.func29, Try.ntmps29
    go_wp2
    go_ret
    exact ⟨none, 0, rfl, Qu.nil _ _ _, Below.refl _ w⟩
  | some ad =>
    obtain ⟨i0, hi, hz0, hz1, hz2⟩ := info_parts infoI
    have he : ∀ w : World, (binOp .eql 32 (.slice (some ad) xs.length c) (.slice none 0 0)).run Try.prog w = .ok (.bool false) w := fun _ => by kernel_rfl
    go_enter Try.func29, Try.ntmps29
    have hown0 : Ow (w.alloc (.cells #[] 2)) w.heap.size 2 (.slice (some ⟨w.heap.size, 0, none⟩) 0 0) [] :=
      World.ownsRow_lit w #[] 0 (Nat.le_refl _) (Nat.zero_le _) rfl
    have hnew : Below w.heap.size w (w.alloc (.cells #[] 2)) := (Below.refl _ w).alloc (Nat.le_refl _) _
    go_wp2_with (at_builtin; refine wpList_append_sl _ rfl _ _ 32 rfl w.heap.size 2 i0 (.int .i64 0) 8 Try.underlying32 hi hz0 hz1 hz2 rfl (.slice (some ⟨w.heap.size, 0, none⟩) 0 0) [] rfl hown0 (some ad) c xs rfl (hs.below hnew) h1 (by simp; omega) (by omega) (by simp) ?_; intro v' w' hown hgr hblk; go_wp2)
    go_ret
    have hq := Qu.of_ow hown
    rw [List.nil_append] at hq
    obtain ⟨A', c', rfl, _, _⟩ := hq.sl
    exact ⟨A', c', rfl, hq, hnew.grown hgr (by simp) (fun k e => by simp [Value.ownBlock] at e; omega)⟩

theorem qc_one (off : Int) (cs : List Int) : ∀ u ∈ qc off cs, u.oneCell' = true := by
  intro u hu
  simp only [qc, List.mem_map] at hu
  obtain ⟨b, _, rfl⟩ := hu
  rfl

set_option maxHeartbeats 400000 in
theorem cclone_any (g base : Nat) (lo hi b : Int) (s : St) (w : World) (h : SetIs w g base lo hi s) (hs : s.Sane b) (hk : b ≤ 1000) :
    Calls Try.prog 23 #[.pointer (some ⟨g, 0, none⟩)] w fun e w' => ∃ g', e = .returned (.pointer (some ⟨g', 0, none⟩)) ∧ SetIs w' g' w.heap.size lo hi s ∧ w.heap.size ≤ g' ∧ Below w.heap.size w w' := by
  obtain ⟨v, hblk, hq⟩ := h
  obtain ⟨A, c, rfl, hsl, hA⟩ := hq.sl
  obtain ⟨off, cs, full, steps⟩ := s
  have hle := hs.length
  dsimp only at hle hblk hq hsl
  obtain ⟨c0, c1, c2, c3, c4, c5⟩ := six_cells hblk
  have hcl := sclone_any (qc off cs) A c (w.alloc (.cells #[.int .i64 lo, .int .i64 hi, .int .i64 off, .slice A (qc off cs).length c, .bool full, .int .i64 steps] 50)) (hsl.alloc _) (qc_one _ _) (by rw [qc_length]; omega)
  have hg0 : (w.alloc (.cells #[.int .i64 lo, .int .i64 hi, .int .i64 off, .slice A (qc off cs).length c, .bool full, .int .i64 steps] 50)).heap[w.heap.size]? = some (.cells #[.int .i64 lo, .int .i64 hi, .int .i64 off, .slice A (qc off cs).length c, .bool full, .int .i64 steps] 50) := heap_alloc_new w _
  have hb0 : Below w.heap.size w (w.alloc (.cells #[.int .i64 lo, .int .i64 hi, .int .i64 off, .slice A (qc off cs).length c, .bool full, .int .i64 steps] 50)) := (Below.refl _ w).alloc (Nat.le_refl _) _
  have hgl := blk_lt hblk
  clear hq hsl hA
  generalize (qc off cs).length = n at *
  go_enter Try.func23, Try.ntmps23
  go_wp2_with fail
  refine hcl.mono ?_
  rintro e w1 ⟨A', c', rfl, hq1, hb1⟩
  have hblk1 := blk_below hg0 hb1
  have hb2 : Below w.heap.size w w1 := hb0.trans (hb1.mono (by simp))
  clear hcl hg0 hb0 hb1 c0 c1 c2 c3 c4 c5 hblk
  obtain ⟨c0, c1, c2, c3, c4, c5⟩ := six_cells hblk1
  obtain ⟨f0, f1, f2, f3, f4, f5⟩ := six_frozen hblk1
  go_wp2
  go_ret
  refine ⟨w.heap.size, rfl, ⟨_, blk_set hblk1 3 (.slice A' n c'), ?_⟩, Nat.le_refl _, hb2.setCell (p := ⟨w.heap.size, 0 + 3, none⟩) (Nat.le_refl _) _⟩
  have hq2 := hq1.far (a := ⟨w.heap.size, 3, none⟩) (hq1.ne_blk hblk1 (by decide)) (.slice A' n c')
  exact hq2.mono fun k hk => by have := (hq2.lt k hk).1; simp at this; omega
end Go.Proofs.Ytmfmniecoaihhaa
