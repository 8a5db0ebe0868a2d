/- The walks of package cset once more: where the queue lies. -/
import Derived.Test.YtmfmniecoaihhaaCsV
namespace Go.Proofs.Ytmfmniecoaihhaa
open Go.RowKit

/-- A set whose queue lies in block q. -/
def SetQ (w : World) (g base : Nat) (lo hi : Int) (s : St) (q : Option Nat) : Prop :=
  ∃ v, w.heap[g]? = some (.cells #[.int .i64 lo, .int .i64 hi, .int .i64 s.off, v, .bool s.full, .int .i64 s.steps] 50) ∧ Qu w base 2 v (qc s.off s.cs) ∧ v.ownBlock = q
theorem SetQ.is {w : World} {g base : Nat} {lo hi : Int} {s : St} {q : Option Nat} (h : SetQ w g base lo hi s q) : SetIs w g base lo hi s := by
  obtain ⟨v, h1, h2, _⟩ := h
  exact ⟨v, h1, h2⟩
theorem SetQ.of {w : World} {g base : Nat} {lo hi : Int} {s : St} (h : SetIs w g base lo hi s) : ∃ q, SetQ w g base lo hi s q ∧ ∀ k, q = some k → base ≤ k ∧ k < w.heap.size := by
  obtain ⟨v, h1, h2⟩ := h
  exact ⟨_, ⟨v, h1, h2, rfl⟩, h2.lt⟩
theorem SetQ.drewN {w : World} {g base : Nat} {lo hi : Int} {s : St} {q : Option Nat} (h : SetQ w g base lo hi s q) (n : Nat) : SetQ (w.drewN n) g base lo hi s q := by
  obtain ⟨v, h1, h2, h3⟩ := h
  exact ⟨v, h1, h2.keep fun _ _ _ => rfl, h3⟩
theorem SetQ.below {w w' : World} {g base : Nat} {lo hi : Int} {s : St} {q : Option Nat} (h : SetQ w g base lo hi s q) (hb : Below w.heap.size w w') : SetQ w' g base lo hi s q := by
  obtain ⟨v, h1, h2, h3⟩ := h
  exact ⟨v, blk_below h1 hb, h2.below hb, h3⟩
theorem SetQ.lt {w : World} {g base : Nat} {lo hi : Int} {s : St} {q : Option Nat} (h : SetQ w g base lo hi s q) : ∀ k, q = some k → base ≤ k ∧ k < w.heap.size := by
  obtain ⟨v, h1, h2, h3⟩ := h
  rw [← h3]
  exact h2.lt
/-- Nothing has turned but block g and block q. -/
structure FrQ (w w' : World) (g : Nat) (q : Option Nat) : Prop where
  os : w'.os = w.os
  tape : w'.tape = w.tape
  output : w'.output = w.output
  size : w.heap.size ≤ w'.heap.size
  block : ∀ k, k < w.heap.size → k ≠ g → some k ≠ q → w'.heap[k]? = w.heap[k]?
theorem FrQ.fr {w w1 w' : World} {g B : Nat} {q : Option Nat} (h : FrQ w w1 g q) (k : Fr B g w1 w') (hB : w.heap.size ≤ B) : FrQ w w' g q :=
  ⟨k.os.trans h.os, k.tape.trans h.tape, k.output.trans h.output, Nat.le_trans h.size k.size, fun i hi hg hq => (k.block i (by omega) hg).trans (h.block i hi hg hq)⟩
theorem FrQ.of_fr {w w' : World} {g : Nat} (q : Option Nat) (k : Fr w.heap.size g w w') : FrQ w w' g q := ⟨k.os, k.tape, k.output, k.size, fun i hi hg _ => k.block i hi hg⟩
/-- The end of Begin. -/
def RetB (w : World) (g base : Nat) (lo hi : Int) (s : St) (q : Option Nat) (e : Ending) (w' : World) : Prop :=
  ∃ q', e = .returned (.tuple #[]) ∧ SetQ w' g base lo hi s q' ∧ (q' = q ∨ ∃ k, q' = some k ∧ w.heap.size ≤ k) ∧ Below base w w' ∧ FrQ w w' g q

set_option maxHeartbeats 400000 in
theorem trimq_any (g base : Nat) (lo hi b : Int) (s : St) (w : World) (hsc : Sc lo hi) (q : Option Nat) (h : SetQ w g base lo hi s q) (hs : s.Sane b) (hk : b ≤ 1000) :
    Calls Try.prog 24 #[.pointer (some ⟨g, 0, none⟩)] w fun e w' => e = .returned (.tuple #[]) ∧ SetQ w' g base lo hi (s.trim lo hi) q ∧ Fr w.heap.size g w w' := by
  have h'' := h
  have h' := h.is
  obtain ⟨v, hblk, hq, hqb⟩ := h
  obtain ⟨A, c, rfl, hsl, hA⟩ := hq.sl
  obtain ⟨off, cs, full, steps⟩ := s
  obtain ⟨c0, c1, c2, c3, c4, c5⟩ := six_cells hblk
  obtain ⟨f0, f1, f2, f3, f4, f5⟩ := six_frozen hblk
  have o0 := hs.off0
  have o1 := hs.off1
  have t0 := hs.st0
  have t1 := hs.st1
  have htop := fun n => top_any g base lo hi ⟨off, cs, full, steps⟩ (w.drewN n) hsc (h'.drewN n)
  dsimp only at o0 o1 t0 t1 c2 c3 c4 c5
  cases cs with
  | nil =>
    rw [show (qc off []).length = 0 from rfl] at c3
    clear htop
    go_enter Try.func24, Try.ntmps24
    go_wp2
    go_quiet (fail)
    go_wp2
    go_end0
    exact ⟨rfl, h''.drewN nq, fr_drewN _ _ _ _⟩
  | cons x t =>
    obtain ⟨ad, rfl, hc⟩ := hsl.at_ (k := 0) (by simp [qc])
    have hc0 : w.cell? ad = some (.int .i64 (off - x)) := by
      have hc' : w.cell? (ad.add 0) = some (.int .i64 (off - x)) := hc
      rwa [add0] at hc'
    clear hc
    have hx := hs.mem x (List.mem_cons_self ..)
    have hlen : (qc off (x :: t)).length = t.length + 1 := by simp [qc]
    have hle := hs.length
    rw [List.length_cons] at hle
    rw [hlen] at c3
    cases hb : tooBig lo hi (x :: t) with
    | false =>
      have hd0 : ¬ (topZ lo hi < x) := by simpa [tooBig] using hb
      have hd : decide (topZ lo hi < off - (off - x)) = false := by simp; omega
      go_enter Try.func24, Try.ntmps24
      go_wp2
      go_quiet ((go_at_call 30; exact Calls.quiet_of_same ((htop _).mono fun _ _ h => ⟨h.1, h.2.symm⟩)))
      go_wp2
      go_end0
      refine ⟨rfl, ?_, fr_drewN _ _ _ _⟩
      rw [St.trim, if_neg (by rw [hb]; decide)]
      exact h''.drewN nq
    | true =>
      have hd0 : topZ lo hi < x := by simpa [tooBig] using hb
      have hd : decide (topZ lo hi < off - (off - x)) = true := by simp; omega
      rw [St.trim, if_pos hb]
      go_enter Try.func24, Try.ntmps24
      go_wp2
      go_quiet ((go_at_call 30; exact Calls.quiet_of_same ((htop _).mono fun _ _ h => ⟨h.1, h.2.symm⟩)))
      obtain ⟨w1, hw1⟩ : ∃ w1, w1 = w.drewN nq := ⟨_, rfl⟩
      rw [← hw1]
      have hfr : Fr w.heap.size g w w1 := by rw [hw1]; exact fr_drewN _ _ _ _
      have hblk1 : w1.heap[g]? = some (.cells #[.int .i64 lo, .int .i64 hi, .int .i64 off, .slice (some ad) (t.length + 1) c, .bool full, .int .i64 steps] 50) := by rw [hw1, ← hlen]; exact hblk
      have hq1 : Qu w1 base 2 (.slice (some ad) (t.length + 1) c) (qc off (x :: t)) := by rw [hw1, ← hlen]; exact hq.keep fun _ _ _ => rfl
      have hsz : w1.heap.size = w.heap.size := by rw [hw1]; rfl
      have hcap : t.length + 1 ≤ c := by rw [← hlen]; exact hsl.cap
      have hmax := hsl.max
      clear hw1 hblk hq hsl h' htop c0 c1 c2 c3 c4 c5 f0 f1 f2 f3 f4 f5 hc0 hd hb hA
      obtain ⟨c0, c1, c2, c3, c4, c5⟩ := six_cells hblk1
      obtain ⟨f0, f1, f2, f3, f4, f5⟩ := six_frozen hblk1
      have hq2 := hq1.drop1
      rw [Nat.add_sub_cancel] at hq2
      generalize hA2 : (if c = 1 then some ad else (some ad).map (·.add 1)) = A2 at hq2
      have hA2b : (Value.slice A2 t.length (c - 1)).ownBlock = q := by
        rw [← hA2, ← hqb]
        split <;> simp [Value.ownBlock, addr_block]
      have hne := hq2.ne_blk hblk1 (by decide)
      have hblk2 := blk_set hblk1 3 (.slice A2 t.length (c - 1))
      have hq3 := hq2.far (a := ⟨g, 3, none⟩) hne (.slice A2 t.length (c - 1))
      have hset : SetIs (w1.setCell ⟨g, 3, none⟩ (.slice A2 t.length (c - 1))) g base lo hi ⟨off, t, full, steps⟩ := ⟨_, hblk2, hq3⟩
      have fin : ∀ f' : Bool, SetQ (((w1.setCell ⟨g, 3, none⟩ (.slice A2 t.length (c - 1))).setCell ⟨g, 4, none⟩ (.bool f')).setCell ⟨g, 5, none⟩ (.int .i64 (steps + 1))) g base lo hi ⟨off, t, f', steps + 1⟩ q ∧
          Fr w.heap.size g w (((w1.setCell ⟨g, 3, none⟩ (.slice A2 t.length (c - 1))).setCell ⟨g, 4, none⟩ (.bool f')).setCell ⟨g, 5, none⟩ (.int .i64 (steps + 1))) := fun f' =>
        ⟨⟨_, blk_set (blk_set hblk2 4 (.bool f')) 5 (.int .i64 (steps + 1)), (hq3.far (a := ⟨g, 4, none⟩) hne _).far (a := ⟨g, 5, none⟩) hne _, hA2b⟩,
          ((hfr.setCell (p := ⟨g, 3, none⟩) (.inr rfl) _).setCell (p := ⟨g, 4, none⟩) (.inr rfl) _).setCell (p := ⟨g, 5, none⟩) (.inr rfl) _⟩
      have hop := open_any g base lo hi ⟨off, t, full, steps⟩ _ hset
      clear hset hq3 hblk2 hne hq2 hq1 hfr
      by_cases hc1 : c = 1
      · rw [if_pos hc1] at hA2
        subst hA2
        obtain rfl : t = [] := List.eq_nil_of_length_eq_zero (by omega)
        subst hc1
        cases full with
        | true =>
          go_wp2
          go_end0
          exact ⟨rfl, fin true⟩
        | false =>
          go_wp2_with fail
          refine hop.mono ?_
          rintro e w' ⟨rfl, rfl⟩
          go_wp2
          go_end0
          exact ⟨rfl, fin (opnB hi)⟩
      · rw [if_neg hc1] at hA2
        subst hA2
        simp only [Option.map_some] at fin hop
        cases full with
        | true =>
          go_wp2
          go_end0
          exact ⟨rfl, fin true⟩
        | false =>
          go_wp2_with fail
          refine hop.mono ?_
          rintro e w' ⟨rfl, rfl⟩
          go_wp2
          go_end0
          exact ⟨rfl, fin (opnB hi)⟩

set_option maxHeartbeats 400000 in
theorem nextq_any (g base : Nat) (lo hi b : Int) (s : St) (w : World) (hsc : Sc lo hi) (q : Option Nat) (h : SetQ w g base lo hi s q) (hs : s.Sane b) (hk : b ≤ 500) :
    Calls Try.prog 12 #[.pointer (some ⟨g, 0, none⟩)] w fun e w' => e = .returned (.tuple #[]) ∧ SetQ w' g base lo hi (s.next lo hi) q ∧ Fr w.heap.size g w w' := by
  obtain ⟨v, hblk, hq, hqb⟩ := h
  obtain ⟨A, c, rfl, hsl, hA⟩ := hq.sl
  obtain ⟨off, cs, full, steps⟩ := s
  have hs' := hs.nxt
  obtain ⟨c0, c1, c2, c3, c4, c5⟩ := six_cells hblk
  obtain ⟨f0, f1, f2, f3, f4, f5⟩ := six_frozen hblk
  have o0 := hs.off0
  have o1 := hs.off1
  have t0 := hs.st0
  have t1 := hs.st1
  have hne := hq.ne_blk hblk (by decide)
  dsimp only at o0 o1 t0 t1 c2 c3 c4 c5 hblk hq hne hsl
  have hset : SetQ ((w.setCell ⟨g, 5, none⟩ (.int .i64 (steps + 1))).setCell ⟨g, 2, none⟩ (.int .i64 (off + 1))) g base lo hi (St.nxt ⟨off, cs, full, steps⟩) q := by
    refine ⟨_, blk_set (blk_set hblk 5 (.int .i64 (steps + 1))) 2 (.int .i64 (off + 1)), ?_, hqb⟩
    simp only [St.nxt, qc_next]
    exact (hq.far (a := ⟨g, 5, none⟩) hne _).far (a := ⟨g, 2, none⟩) hne _
  have hfr : Fr w.heap.size g w ((w.setCell ⟨g, 5, none⟩ (.int .i64 (steps + 1))).setCell ⟨g, 2, none⟩ (.int .i64 (off + 1))) := ((Fr.refl w.heap.size g w).setCell (p := ⟨g, 5, none⟩) (.inr rfl) _).setCell (p := ⟨g, 2, none⟩) (.inr rfl) _
  have htrim := trimq_any g base lo hi (b + 1) _ _ hsc q hset hs'.1 (by omega)
  clear hset hq hsl hA
  go_enter Try.func12, Try.ntmps12
  go_wp2_with fail
  refine htrim.mono ?_
  rintro e w' ⟨rfl, hset', hfr'⟩
  go_wp2
  go_end0
  exact ⟨rfl, hset', hfr.trans (hfr'.mono hfr.size)⟩


set_option maxHeartbeats 1000000 in
theorem beginq_any (g base : Nat) (lo hi b : Int) (s : St) (w : World) (hsc : Sc lo hi) (q : Option Nat) (h : SetQ w g base lo hi s q) (hs : s.Sane b) (hb1 : 1 ≤ b) (hk : b ≤ 500) (hbg : base ≤ g) (hbs : base ≤ w.heap.size) :
    Calls Try.prog 11 #[.pointer (some ⟨g, 0, none⟩)] w (RetB w g base lo hi (s.begin lo hi) q) := by
  obtain ⟨i0, hi0, hz0, hz1, hz2⟩ := info_parts infoI
  obtain ⟨v, hblk, hq, hqb⟩ := h
  obtain ⟨A, c, rfl, hsl, hA⟩ := hq.sl
  obtain ⟨off, cs, full, steps⟩ := s
  have hs' := hs.bgn hb1
  have o0 := hs.off0
  have o1 := hs.off1
  have t0 := hs.st0
  have t1 := hs.st1
  have hle := hs.length
  rw [qc_length] at hblk hq hqb
  dsimp only at o0 o1 t0 t1 hblk hq hsl hle
  have hne := hq.ne_blk hblk (by decide)
  obtain ⟨c0, c1, c2, c3, c4, c5⟩ := six_cells hblk
  obtain ⟨f0, f1, f2, f3, f4, f5⟩ := six_frozen hblk
  have hfq0 : FrQ w (w.setCell ⟨g, 5, none⟩ (.int .i64 (steps + 1))) g q := ⟨rfl, rfl, rfl, by simp [World.setCell], fun k _ hk _ => Below.heap_setCell w ⟨g, 5, none⟩ _ k hk⟩
  have hb0 : Below base w (w.setCell ⟨g, 5, none⟩ (.int .i64 (steps + 1))) := (Below.refl base w).setCell (p := ⟨g, 5, none⟩) hbg _
  have hblk0 := blk_set hblk 5 (.int .i64 (steps + 1))
  have hq0 := hq.far (a := ⟨g, 5, none⟩) hne (.int .i64 (steps + 1))
  have hsz : (w.setCell ⟨g, 5, none⟩ (.int .i64 (steps + 1))).heap.size = w.heap.size := by simp [World.setCell]
  go_enter Try.func11, Try.ntmps11
  go_wp2
  obtain ⟨w1, hw1⟩ : ∃ w1, w1 = w.setCell ⟨g, 5, none⟩ (.int .i64 (steps + 1)) := ⟨_, rfl⟩
  rw [← hw1] at hb0 hfq0 hblk0 hq0 hsz ⊢
  clear hw1 hblk hq c0 c1 c2 c3 c4 c5 f0 f1 f2 f3 f4 f5 hne
  have hblk1 : w1.heap[g]? = some (.cells #[.int .i64 lo, .int .i64 hi, .int .i64 off, .slice A cs.length c, .bool full, .int .i64 (steps + 1)] 50) := hblk0
  clear hblk0
  have hsl1 : Sl w1 A c (qc off cs) := by
    obtain ⟨A', c', he, h', _⟩ := hq0.sl
    rw [qc_length] at he
    injection he with h1 h2 h3
    subst h1 h3
    exact h'
  clear hsl hA
  cases hbg1 : beg cs with
  | false =>
    obtain ⟨m, rfl⟩ := St.beg_false hbg1
    obtain ⟨ad, rfl, hc⟩ := hsl1.at_ (k := m.length) (by simp [qc])
    have hc0 : w1.cell? (ad.add m.length) = some (.int .i64 (off - 1)) := by
      rw [hc, qc_get]
      simp [List.getD]
    clear hc
    rw [show (m ++ [(1 : Int)]).length = m.length + 1 by simp] at hblk1 hq0 hle hqb ⊢
    have hqb' := hqb
    obtain ⟨c0, c1, c2, c3, c4, c5⟩ := six_cells hblk1
    have hd1 : ((off - (off - 1)) == 1) = true := by simp; omega
    have hd2 : ((off - (off - 1)) != 1) = false := by simp; omega
    have he0 : ((m.length : Int) + 1 == 0) = false := by simp; omega
    go_quiet (fail)
    have hset : ∀ n, SetQ (w1.drewN n) g base lo hi ⟨off, m ++ [1], full, steps + 1⟩ q := fun n => ⟨_, hblk1, hq0.keep fun _ _ _ => rfl, hqb'⟩
    have htrim := fun n => trimq_any g base lo hi (b + 1) _ _ hsc q (hset n) (by simpa [St.bgn, hbg1] using hs'.1) (by omega)
    go_wp2_with fail
    refine (htrim _).mono ?_
    rintro e w' ⟨rfl, hset', hfr'⟩
    go_wp2
    go_end0
    have hf2 := (fr_drewN w1.heap.size g w1 nq).trans hfr'
    exact ⟨q, rfl, by simpa [St.begin, St.bgn, hbg1] using hset', .inl rfl, below_fr hb0 hf2 (by omega) hbg, hfq0.fr hf2 (by omega)⟩
  | true =>
    have fin : ∀ (w3 : World) (q' : Option Nat), SetQ w3 g base lo hi ⟨off, cs ++ [1], full, steps + 1⟩ q' → (q' = q ∨ ∃ k, q' = some k ∧ w.heap.size ≤ k) → Below base w w3 → FrQ w w3 g q → base ≤ w3.heap.size →
        Calls Try.prog 24 #[.pointer (some ⟨g, 0, none⟩)] w3 (RetB w g base lo hi (St.begin lo hi ⟨off, cs, full, steps⟩) q) := fun w3 q' h3 hqq h4 h6 h5 => by
      refine (trimq_any g base lo hi (b + 1) _ w3 hsc q' h3 (by simpa [St.bgn, hbg1] using hs'.1) (by omega)).mono ?_
      rintro e w' ⟨rfl, hset', hfr'⟩
      exact ⟨q', rfl, by simpa [St.begin, St.bgn, hbg1] using hset', hqq, below_fr h4 hfr' h5 hbg, h6.fr hfr' h6.size⟩
    have app : ∀ (o : Obj) (w2 w' : World) (v' : Value), (∃ n, w2 = w1.drewN n) → Qu w' base 2 v' (qc off cs ++ [.int .i64 (off - 1)]) → (w2.alloc o).drew.grownBy w' (Value.slice A cs.length c).ownBlock →
        (v'.ownBlock = (Value.slice A cs.length c).ownBlock ∨ v'.ownBlock = some (w2.alloc o).drew.heap.size) →
        Calls Try.prog 24 #[.pointer (some ⟨g, 0, none⟩)] (w'.setCell ⟨g, 3, none⟩ v') (RetB w g base lo hi (St.begin lo hi ⟨off, cs, full, steps⟩) q) := fun o w2 w' v' ⟨n, hn⟩ h1 h2 h3 => by
      subst hn
      obtain ⟨k1, k2⟩ := begin_app (w := w1.drewN n) (o := o) hblk1 (hq0.keep fun _ _ _ => rfl) (by show base ≤ w1.heap.size; omega) h1 h2 hbg
      have k3 := hb0.trans (show Below base w1 (w'.setCell ⟨g, 3, none⟩ v') from ⟨k2.os, k2.tape, k2.output, k2.size, k2.block⟩)
      have k4 : FrQ w1 (w'.setCell ⟨g, 3, none⟩ v') g q := ⟨h2.os, h2.tape, h2.output, by
          have := h2.size
          have e : ((w1.drewN n).alloc o).drew.heap.size = w1.heap.size + 1 := by show (w1.heap.push o).size = _; rw [Array.size_push]
          simp only [World.setCell, Array.size_modify]
          omega, fun k hk hkg hkq => by
        have e1 : ((w1.drewN n).alloc o).drew.heap[k]? = w1.heap[k]? := Below.heap_alloc (w1.drewN n) o k hk
        rw [Below.heap_setCell w' ⟨g, 3, none⟩ v' k hkg, h2.block k (by
          have e : ((w1.drewN n).alloc o).drew.heap.size = w1.heap.size + 1 := by show (w1.heap.push o).size = _; rw [Array.size_push]
          omega) (by rw [hqb]; exact hkq), e1]⟩
      obtain ⟨v2, x1, x2⟩ := k1
      have hv2 : v2 = v' := by
        have y1 := blk_cell x1 3
        have y2 : (w'.setCell ⟨g, 3, none⟩ v').cell? ⟨g, 3, none⟩ = some v' := by
          obtain ⟨_, x3, _⟩ := (begin_app (w := w1.drewN n) (o := o) hblk1 (hq0.keep fun _ _ _ => rfl) (by show base ≤ w1.heap.size; omega) h1 h2 hbg).1
          have hb' : w'.heap[g]? = some (.cells #[.int .i64 lo, .int .i64 hi, .int .i64 off, .slice A cs.length c, .bool full, .int .i64 (steps + 1)] 50) :=
            blk_grown (w := ((w1.drewN n).alloc o).drew) (blk_alloc (w := w1.drewN n) hblk1 o) h2 (hq0.ne_blk hblk1 (by decide))
          exact blk_cell (blk_set hb' 3 v') 3
        have y3 := y1.symm.trans y2
        exact Option.some.inj y3
      subst hv2
      refine fin _ v2.ownBlock ⟨v2, x1, x2, rfl⟩ ?_ k3 ⟨k4.os.trans hfq0.os, k4.tape.trans hfq0.tape, k4.output.trans hfq0.output, Nat.le_trans hfq0.size k4.size, fun k hk hkg hkq => (k4.block k (by have := hfq0.size; omega) hkg hkq).trans (hfq0.block k hk hkg hkq)⟩ (by have := k3.size; omega)
      rcases h3 with h3 | h3
      · exact .inl (h3.trans hqb)
      · refine .inr ⟨_, h3, ?_⟩
        have e : ((w1.drewN n).alloc o).drew.heap.size = w1.heap.size + 1 := by show (w1.heap.push o).size = _; rw [Array.size_push]
        omega
    have hwr : IntKind.i64.wrap (off - 1) = off - 1 := by rw [IntKind.wrap_i64]; omega
    rcases nil_or_snoc cs with rfl | ⟨m, x, rfl⟩
    · rw [show ([] : List Int).length = 0 from rfl] at hblk1 hq0 hqb app ⊢
      obtain ⟨c0, c1, c2, c3, c4, c5⟩ := six_cells hblk1
      obtain ⟨f0, f1, f2, f3, f4, f5⟩ := six_frozen hblk1
      go_quiet (fail)
      obtain ⟨w2, hw2⟩ : ∃ w2, w2 = w1.drewN nq := ⟨_, rfl⟩
      have happ := fun o w' v' => app o w2 w' v' ⟨nq, hw2⟩
      rw [← hw2]
      have hblk2 : w2.heap[g]? = some (.cells #[.int .i64 lo, .int .i64 hi, .int .i64 off, .slice A 0 c, .bool full, .int .i64 (steps + 1)] 50) := by rw [hw2]; exact hblk1
      have hq2 : Qu w2 base 2 (.slice A 0 c) (qc off []) := by rw [hw2]; exact hq0.keep fun _ _ _ => rfl
      have hsz2 : base ≤ w2.heap.size := by rw [hw2]; show base ≤ w1.heap.size; omega
      clear hw2 hblk1 hq0 hsz app fin hsl1 hb0 c0 c1 c2 c3 c4 c5 f0 f1 f2 f3 f4 f5
      obtain ⟨c0, c1, c2, c3, c4, c5⟩ := six_cells hblk2
      obtain ⟨f0, f1, f2, f3, f4, f5⟩ := six_frozen hblk2
      have hqa : ∀ o, Qu (w2.alloc o).drew base 2 (.slice A 0 c) (qc off []) := fun o => (hq2.alloc o).drew
      have hcell : ∀ (u : Value) (t : TypeId), (w2.alloc (.cells #[u] t)).drew.cell? ((⟨w2.heap.size, 0, none⟩ : Addr).add 0) = some u := fun u t => by
        have := cell_one_new w2 u t 0 u rfl
        simpa using this
      have hbb : ∀ o, base ≤ (w2.alloc o).drew.heap.size := fun o => by show base ≤ (w2.heap.push o).size; rw [Array.size_push]; omega
      have hnext : ∀ o w', (w2.alloc o).drew.grownBy w' (Value.slice A 0 c).ownBlock → w'.heap[g]? = some (.cells #[.int .i64 lo, .int .i64 hi, .int .i64 off, .slice A 0 c, .bool full, .int .i64 (steps + 1)] 50) := fun o w' hg =>
        blk_grown (w := (w2.alloc o).drew) (blk_alloc hblk2 o) hg (hq2.ne_blk hblk2 (by decide))
      have hby : ((qc off []).length + 1) * 8 ≤ 140737488355328 := by simp [qc]
      have hgl := blk_lt hblk2
      clear hblk2 hq2
      go_wp2
      go_region_law (refine step_append_qu _ rfl (.tmp 37) (.tmp 43) 32 rfl base 2 i0 (.int .i64 0) 8 Try.underlying32 hi0 hz0 hz1 hz2 rfl (.slice A 0 c) (qc off []) (by simp [Act.eval, Act.put]) (hqa _) ⟨w2.heap.size, 0, none⟩ 1 _ (by simp [Act.eval, Act.put] <;> rfl) (hcell _ _) rfl hby (by decide) (hbb _) ?_; intro v' w' hq' hgr hbv; have hblk' := hnext _ _ hgr; obtain ⟨A', c', hv, hsl', hbk⟩ := hq'.sl; subst hv; obtain ⟨d0, d1, d2, d3, d4, d5⟩ := six_cells hblk'; obtain ⟨e0, e1, e2, e3, e4, e5⟩ := six_frozen hblk')
      all_goals go_wp2_with fail
      all_goals
        have hbv' := hbv
        simp only [List.length_append, List.length_singleton] at hq' hbv'
        refine (happ _ _ _ hq' hgr hbv').mono ?_
        rintro e w'' ⟨q2, rfl, h1, h2, h3, h4⟩
        go_wp2
        go_end0
        exact ⟨q2, rfl, h1, h2, h3, h4⟩
    · obtain ⟨ad, rfl, hc⟩ := hsl1.at_ (k := m.length) (by simp [qc])
      have hc0 : w1.cell? (ad.add m.length) = some (.int .i64 (off - x)) := by
        rw [hc, qc_get]
        simp [List.getD]
      clear hc
      have hx := hs.mem x (by simp)
      have hx1 : x ≠ 1 := by
        rintro rfl
        simp [beg] at hbg1
      rw [show (m ++ [x]).length = m.length + 1 by simp] at hblk1 hq0 hle hqb app ⊢
      have hd1 : ((off - (off - x)) == 1) = false := by simp; omega
      have hd2 : ((off - (off - x)) != 1) = true := by simp; omega
      have he0 : ((m.length : Int) + 1 == 0) = false := by simp; omega
      obtain ⟨c0, c1, c2, c3, c4, c5⟩ := six_cells hblk1
      obtain ⟨f0, f1, f2, f3, f4, f5⟩ := six_frozen hblk1
      go_quiet (fail)
      obtain ⟨w2, hw2⟩ : ∃ w2, w2 = w1.drewN nq := ⟨_, rfl⟩
      have happ := fun o w' v' => app o w2 w' v' ⟨nq, hw2⟩
      rw [← hw2]
      have hblk2 : w2.heap[g]? = some (.cells #[.int .i64 lo, .int .i64 hi, .int .i64 off, .slice (some ad) (m.length + 1) c, .bool full, .int .i64 (steps + 1)] 50) := by rw [hw2]; exact hblk1
      have hq2 : Qu w2 base 2 (.slice (some ad) (m.length + 1) c) (qc off (m ++ [x])) := by rw [hw2]; exact hq0.keep fun _ _ _ => rfl
      have hsz2 : base ≤ w2.heap.size := by rw [hw2]; show base ≤ w1.heap.size; omega
      clear hw2 hblk1 hq0 hsz app fin hsl1 hb0 c0 c1 c2 c3 c4 c5 f0 f1 f2 f3 f4 f5
      obtain ⟨c0, c1, c2, c3, c4, c5⟩ := six_cells hblk2
      obtain ⟨f0, f1, f2, f3, f4, f5⟩ := six_frozen hblk2
      have hqa : ∀ o, Qu (w2.alloc o).drew base 2 (.slice (some ad) (m.length + 1) c) (qc off (m ++ [x])) := fun o => (hq2.alloc o).drew
      have hcell : ∀ (u : Value) (t : TypeId), (w2.alloc (.cells #[u] t)).drew.cell? ((⟨w2.heap.size, 0, none⟩ : Addr).add 0) = some u := fun u t => by
        have := cell_one_new w2 u t 0 u rfl
        simpa using this
      have hbb : ∀ o, base ≤ (w2.alloc o).drew.heap.size := fun o => by show base ≤ (w2.heap.push o).size; rw [Array.size_push]; omega
      have hnext : ∀ o w', (w2.alloc o).drew.grownBy w' (Value.slice (some ad) (m.length + 1) c).ownBlock → w'.heap[g]? = some (.cells #[.int .i64 lo, .int .i64 hi, .int .i64 off, .slice (some ad) (m.length + 1) c, .bool full, .int .i64 (steps + 1)] 50) := fun o w' hg =>
        blk_grown (w := (w2.alloc o).drew) (blk_alloc hblk2 o) hg (hq2.ne_blk hblk2 (by decide))
      have hby : ((qc off (m ++ [x])).length + 1) * 8 ≤ 140737488355328 := by simp only [qc_length, List.length_append, List.length_singleton]; omega
      have hgl := blk_lt hblk2
      clear hblk2 hq2
      go_wp2
      go_region_law (refine step_append_qu _ rfl (.tmp 37) (.tmp 43) 32 rfl base 2 i0 (.int .i64 0) 8 Try.underlying32 hi0 hz0 hz1 hz2 rfl (.slice (some ad) (m.length + 1) c) (qc off (m ++ [x])) (by simp [Act.eval, Act.put]) (hqa _) ⟨w2.heap.size, 0, none⟩ 1 _ (by simp [Act.eval, Act.put] <;> rfl) (hcell _ _) rfl hby (by decide) (hbb _) ?_; intro v' w' hq' hgr hbv; have hblk' := hnext _ _ hgr; obtain ⟨A', c', hv, hsl', hbk⟩ := hq'.sl; subst hv; obtain ⟨d0, d1, d2, d3, d4, d5⟩ := six_cells hblk'; obtain ⟨e0, e1, e2, e3, e4, e5⟩ := six_frozen hblk')
      all_goals go_wp2_with fail
      all_goals
        have hbv' := hbv
        simp only [List.length_append, List.length_singleton] at hq' hbv'
        refine (happ _ _ _ hq' hgr hbv').mono ?_
        rintro e w'' ⟨q2, rfl, h1, h2, h3, h4⟩
        go_wp2
        go_end0
        exact ⟨q2, rfl, h1, h2, h3, h4⟩
end Go.Proofs.Ytmfmniecoaihhaa
