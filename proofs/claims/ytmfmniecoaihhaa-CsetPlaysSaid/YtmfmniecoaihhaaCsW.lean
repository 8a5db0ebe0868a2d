/- The walks of package cset: what a call reads and leaves of a set. -/
import Derived.Test.YtmfmniecoaihhaaProg
import Derived.Test.YtmfmniecoaihhaaQu
import Derived.Test.YtmfmniecoaihhaaCsP
import Derived.WalkKit
import Derived.LoopTactic
import Derived.Deep.RegionLaw
import Derived.Deep.RegionHeld3
import Derived.StillTailTactics
import Derived.BigQuiet
import Derived.Deep.QuietTactic
import Derived.WalkSpells
import Derived.Outline
namespace Go.Proofs.Ytmfmniecoaihhaa
open Go.RowKit

theorem infoI : (Try.prog.info? 2).map (fun i => (i.zero, i.size, i.bytes)) = some (some (.int .i64 0), 1, 8) := by kernel_rfl
/-- The queue's cells. -/
def qc (off : Int) (cs : List Int) : List Value := cs.map fun c => .int .i64 (off - c)
theorem qc_length (off : Int) (cs : List Int) : (qc off cs).length = cs.length := by simp [qc]
/-- The set's block. -/
def SetIs (w : World) (g base : Nat) (lo hi : Int) (s : St) : Prop :=
  ∃ v, w.heap[g]? = some (.cells #[.int .i64 lo, .int .i64 hi, .int .i64 s.off, v, .bool s.full, .int .i64 s.steps] 50) ∧ Qu w base 2 v (qc s.off s.cs)
theorem six_cells {w : World} {g : Nat} {a b c d e f : Value} {t : TypeId} (h : w.heap[g]? = some (.cells #[a, b, c, d, e, f] t)) :
    w.cell? ⟨g, 0, none⟩ = some a ∧ w.cell? ⟨g, 1, none⟩ = some b ∧ w.cell? ⟨g, 2, none⟩ = some c ∧ w.cell? ⟨g, 3, none⟩ = some d ∧ w.cell? ⟨g, 4, none⟩ = some e ∧ w.cell? ⟨g, 5, none⟩ = some f :=
  ⟨blk_cell h 0, blk_cell h 1, blk_cell h 2, blk_cell h 3, blk_cell h 4, blk_cell h 5⟩
theorem six_frozen {w : World} {g : Nat} {a b c d e f : Value} {t : TypeId} (h : w.heap[g]? = some (.cells #[a, b, c, d, e, f] t)) :
    w.frozen? ⟨g, 0, none⟩ = false ∧ w.frozen? ⟨g, 1, none⟩ = false ∧ w.frozen? ⟨g, 2, none⟩ = false ∧ w.frozen? ⟨g, 3, none⟩ = false ∧ w.frozen? ⟨g, 4, none⟩ = false ∧ w.frozen? ⟨g, 5, none⟩ = false :=
  ⟨blk_frozen h 0, blk_frozen h 1, blk_frozen h 2, blk_frozen h 3, blk_frozen h 4, blk_frozen h 5⟩

/-- A scope that may be. -/
structure Sc (lo hi : Int) : Prop where
  lo1 : 1 ≤ lo
  lo2 : lo ≤ 2147483647
  hi : (hi = -1 ∧ 2 ≤ lo) ∨ (2 ≤ hi ∧ lo ≤ hi ∧ hi ≤ 2147483647)

theorem open_any (g base : Nat) (lo hi : Int) (s : St) (w : World) (h : SetIs w g base lo hi s) :
    Calls Try.prog 31 #[.pointer (some ⟨g, 0, none⟩)] w fun e w' => e = .returned (.bool (opnB hi)) ∧ w = w' := by
  obtain ⟨v, hblk, hq⟩ := h
  obtain ⟨c0, c1, c2, c3, c4, c5⟩ := six_cells hblk
  go_enter Try.func31, Try.ntmps31
  go_wp2
  go_ret
  exact ⟨rfl, rfl⟩

theorem top_any (g base : Nat) (lo hi : Int) (s : St) (w : World) (hsc : Sc lo hi) (h : SetIs w g base lo hi s) :
    Calls Try.prog 30 #[.pointer (some ⟨g, 0, none⟩)] w fun e w' => e = .returned (.int .i64 (topZ lo hi)) ∧ w = w' := by
  have h' := h
  obtain ⟨v, hblk, hq⟩ := h
  obtain ⟨c0, c1, c2, c3, c4, c5⟩ := six_cells hblk
  have h1 := hsc.lo1
  have h2 := hsc.lo2
  cases hb : opnB hi with
  | true =>
    have e : hi = -1 := by simpa [opnB] using hb
    go_enter Try.func30, Try.ntmps30
    go_wp2_with fail
    refine (open_any g base lo hi s _ h').mono ?_
    rintro e w' ⟨rfl, rfl⟩
    rw [hb]
    go_wp2
    go_ret
    subst e
    exact ⟨rfl, rfl⟩
  | false =>
    have e : hi ≠ -1 := by simpa [opnB] using hb
    go_enter Try.func30, Try.ntmps30
    go_wp2_with fail
    refine (open_any g base lo hi s _ h').mono ?_
    rintro e w' ⟨rfl, rfl⟩
    rw [hb]
    go_wp2
    go_ret
    refine ⟨show Ending.returned (.int .i64 hi) = _ from ?_, rfl⟩
    rw [topZ, if_neg e]

theorem set_next {w w' : World} {g base : Nat} {lo hi : Int} {s : St} {v : Value} (hb : w'.heap[g]? = some (.cells #[.int .i64 lo, .int .i64 hi, .int .i64 s.off, v, .bool s.full, .int .i64 s.steps] 50)) (hq : Qu w' base 2 v (qc s.off s.cs)) : SetIs w' g base lo hi s := ⟨v, hb, hq⟩

theorem add0 (a : Addr) : a.add 0 = a := by unfold Addr.add; simp
theorem fr_drewN (B g : Nat) (w : World) (n : Nat) : Fr B g w (w.drewN n) := ⟨rfl, rfl, rfl, Nat.le_refl _, fun _ _ _ => rfl⟩
theorem SetIs.drewN {w : World} {g base : Nat} {lo hi : Int} {s : St} (h : SetIs w g base lo hi s) (n : Nat) : SetIs (w.drewN n) g base lo hi s := by
  obtain ⟨v, h1, h2⟩ := h
  exact ⟨v, h1, h2.keep fun _ _ _ => rfl⟩

set_option maxHeartbeats 400000 in
theorem trim_any (g base : Nat) (lo hi b : Int) (s : St) (w : World) (hsc : Sc lo hi) (h : SetIs w g base lo hi s) (hs : s.Sane b) (hk : b ≤ 1000) :
    Calls Try.prog 24 #[.pointer (some ⟨g, 0, none⟩)] w fun e w' => e = .returned (.tuple #[]) ∧ SetIs w' g base lo hi (s.trim lo hi) ∧ Fr w.heap.size g w w' := by
  have h' := h
  obtain ⟨v, hblk, hq⟩ := h
  obtain ⟨A, c, rfl, hsl, hA⟩ := hq.sl
  obtain ⟨off, cs, full, steps⟩ := s
  obtain ⟨c0, c1, c2, c3, c4, c5⟩ := six_cells hblk
  obtain ⟨f0, f1, f2, f3, f4, f5⟩ := six_frozen hblk
  have o0 := hs.off0
  have o1 := hs.off1
  have t0 := hs.st0
  have t1 := hs.st1
  have htop := fun n => top_any g base lo hi ⟨off, cs, full, steps⟩ (w.drewN n) hsc (h'.drewN n)
  dsimp only at o0 o1 t0 t1 c2 c3 c4 c5
  cases cs with
  | nil =>
    rw [show (qc off []).length = 0 from rfl] at c3
    clear htop
    go_enter Try.func24, Try.ntmps24
    go_wp2
    go_quiet (fail)
    go_wp2
    go_end0
    exact ⟨rfl, h'.drewN nq, fr_drewN _ _ _ _⟩
  | cons x t =>
    obtain ⟨ad, rfl, hc⟩ := hsl.at_ (k := 0) (by simp [qc])
    have hc0 : w.cell? ad = some (.int .i64 (off - x)) := by
      have hc' : w.cell? (ad.add 0) = some (.int .i64 (off - x)) := hc
      rwa [add0] at hc'
    clear hc
    have hx := hs.mem x (List.mem_cons_self ..)
    have hlen : (qc off (x :: t)).length = t.length + 1 := by simp [qc]
    have hle := hs.length
    rw [List.length_cons] at hle
    rw [hlen] at c3
    cases hb : tooBig lo hi (x :: t) with
    | false =>
      have hd0 : ¬ (topZ lo hi < x) := by simpa [tooBig] using hb
      have hd : decide (topZ lo hi < off - (off - x)) = false := by simp; omega
      go_enter Try.func24, Try.ntmps24
      go_wp2
      go_quiet ((go_at_call 30; exact Calls.quiet_of_same ((htop _).mono fun _ _ h => ⟨h.1, h.2.symm⟩)))
      go_wp2
      go_end0
      refine ⟨rfl, ?_, fr_drewN _ _ _ _⟩
      rw [St.trim, if_neg (by rw [hb]; decide)]
      exact h'.drewN nq
    | true =>
      have hd0 : topZ lo hi < x := by simpa [tooBig] using hb
      have hd : decide (topZ lo hi < off - (off - x)) = true := by simp; omega
      rw [St.trim, if_pos hb]
      go_enter Try.func24, Try.ntmps24
      go_wp2
      go_quiet ((go_at_call 30; exact Calls.quiet_of_same ((htop _).mono fun _ _ h => ⟨h.1, h.2.symm⟩)))
      obtain ⟨w1, hw1⟩ : ∃ w1, w1 = w.drewN nq := ⟨_, rfl⟩
      rw [← hw1]
      have hfr : Fr w.heap.size g w w1 := by rw [hw1]; exact fr_drewN _ _ _ _
      have hblk1 : w1.heap[g]? = some (.cells #[.int .i64 lo, .int .i64 hi, .int .i64 off, .slice (some ad) (t.length + 1) c, .bool full, .int .i64 steps] 50) := by rw [hw1, ← hlen]; exact hblk
      have hq1 : Qu w1 base 2 (.slice (some ad) (t.length + 1) c) (qc off (x :: t)) := by rw [hw1, ← hlen]; exact hq.keep fun _ _ _ => rfl
      have hsz : w1.heap.size = w.heap.size := by rw [hw1]; rfl
      have hcap : t.length + 1 ≤ c := by rw [← hlen]; exact hsl.cap
      have hmax := hsl.max
      clear hw1 hblk hq hsl h' htop c0 c1 c2 c3 c4 c5 f0 f1 f2 f3 f4 f5 hc0 hd hb hA
      obtain ⟨c0, c1, c2, c3, c4, c5⟩ := six_cells hblk1
      obtain ⟨f0, f1, f2, f3, f4, f5⟩ := six_frozen hblk1
      have hq2 := hq1.drop1
      rw [Nat.add_sub_cancel] at hq2
      generalize hA2 : (if c = 1 then some ad else (some ad).map (·.add 1)) = A2 at hq2
      have hne := hq2.ne_blk hblk1 (by decide)
      have hblk2 := blk_set hblk1 3 (.slice A2 t.length (c - 1))
      have hq3 := hq2.far (a := ⟨g, 3, none⟩) hne (.slice A2 t.length (c - 1))
      have hset : SetIs (w1.setCell ⟨g, 3, none⟩ (.slice A2 t.length (c - 1))) g base lo hi ⟨off, t, full, steps⟩ := ⟨_, hblk2, hq3⟩
      have fin : ∀ f' : Bool, SetIs (((w1.setCell ⟨g, 3, none⟩ (.slice A2 t.length (c - 1))).setCell ⟨g, 4, none⟩ (.bool f')).setCell ⟨g, 5, none⟩ (.int .i64 (steps + 1))) g base lo hi ⟨off, t, f', steps + 1⟩ ∧
          Fr w.heap.size g w (((w1.setCell ⟨g, 3, none⟩ (.slice A2 t.length (c - 1))).setCell ⟨g, 4, none⟩ (.bool f')).setCell ⟨g, 5, none⟩ (.int .i64 (steps + 1))) := fun f' =>
        ⟨⟨_, blk_set (blk_set hblk2 4 (.bool f')) 5 (.int .i64 (steps + 1)), (hq3.far (a := ⟨g, 4, none⟩) hne _).far (a := ⟨g, 5, none⟩) hne _⟩,
          ((hfr.setCell (p := ⟨g, 3, none⟩) (.inr rfl) _).setCell (p := ⟨g, 4, none⟩) (.inr rfl) _).setCell (p := ⟨g, 5, none⟩) (.inr rfl) _⟩
      have hop := open_any g base lo hi ⟨off, t, full, steps⟩ _ hset
      clear hset hq3 hblk2 hne hq2 hq1 hfr
      by_cases hc1 : c = 1
      · rw [if_pos hc1] at hA2
        subst hA2
        obtain rfl : t = [] := List.eq_nil_of_length_eq_zero (by omega)
        subst hc1
        cases full with
        | true =>
          go_wp2
          go_end0
          exact ⟨rfl, fin true⟩
        | false =>
          go_wp2_with fail
          refine hop.mono ?_
          rintro e w' ⟨rfl, rfl⟩
          go_wp2
          go_end0
          exact ⟨rfl, fin (opnB hi)⟩
      · rw [if_neg hc1] at hA2
        subst hA2
        simp only [Option.map_some] at fin hop
        cases full with
        | true =>
          go_wp2
          go_end0
          exact ⟨rfl, fin true⟩
        | false =>
          go_wp2_with fail
          refine hop.mono ?_
          rintro e w' ⟨rfl, rfl⟩
          go_wp2
          go_end0
          exact ⟨rfl, fin (opnB hi)⟩
end Go.Proofs.Ytmfmniecoaihhaa
