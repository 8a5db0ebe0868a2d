/- Calls that come in; the walks of few and of the statement CsetSteps. -/
import Derived.Test.YtmfmniecoaihhaaCsB
namespace Go.Proofs.Ytmfmniecoaihhaa
open Go.RowKit

/-- A call: its kind, small calls. -/
abbrev Opn := Int × List Int
def opAt (l : List Opn) (j : Nat) : Opn := l.getD j (0, [])
theorem opAt_mem {l : List Opn} {j : Nat} (h : j < l.length) : opAt l j ∈ l := by
  rw [show opAt l j = l[j] by simp [opAt, List.getD, List.getElem?_eq_getElem h]]
  exact List.getElem_mem h
/-- The slice of address A and capacity c holds the calls l. -/
structure Opns (w : World) (A : Option Addr) (c : Nat) (l : List Opn) : Prop where
  cap : l.length ≤ c
  max : c ≤ 9223372036854775807
  at_ : ∀ j, j < l.length → ∃ ad B d, A = some ad ∧ w.cell? (ad.add (j * 2)) = some (.int .u8 (opAt l j).1) ∧ w.cell? ⟨(ad.add (j * 2)).block, (ad.add (j * 2)).off + 1, none⟩ = some (.slice B (opAt l j).2.length d) ∧ Sl w B d (ic .u8 (opAt l j).2)
theorem Opns.below {w w' : World} {A : Option Addr} {c : Nat} {l : List Opn} (h : Opns w A c l) (hb : Below w.heap.size w w') : Opns w' A c l := by
  refine ⟨h.cap, h.max, fun j hj => ?_⟩
  obtain ⟨ad, B, d, e, h1, h2, h3⟩ := h.at_ j hj
  exact ⟨ad, B, d, e, (hb.cell (World.block_lt_of_cell? w _ h1)).trans h1, (hb.cell (World.block_lt_of_cell? w _ h2)).trans h2, h3.below hb⟩
/-- Bytes are bytes. -/
def ByteOps (l : List Opn) : Prop := ∀ z ∈ l, (0 ≤ z.1 ∧ z.1 ≤ 255) ∧ ∀ b ∈ z.2, 0 ≤ b ∧ b ≤ 255
def FewOps (l : List Opn) : Prop := l.length ≤ 120 ∧ ∀ z ∈ l, z.2.length ≤ 40
def RetFew (l : List Opn) (w : World) (e : Ending) (w' : World) : Prop := ∃ b : Bool, e = .returned (.bool b) ∧ (b = true → FewOps l) ∧ w = w'

set_option maxRecDepth 100000 in
set_option maxHeartbeats 400000 in
theorem few_any (l : List Opn) (A : Option Addr) (c : Nat) (w : World) (hs : Opns w A c l) :
    Calls Try.prog 16 #[.slice A l.length c] w (RetFew l w) := by
  have hcap := hs.cap
  have hmax := hs.max
  go_enter Try.func16, Try.ntmps16
  go_wp2
  go_loop [3] (fun i => ∃ k : Nat, k ≤ l.length ∧ k ≤ 200 ∧ i = .int .i64 k ∧ Hid (∀ j, j < k → (opAt l j).2.length ≤ 40)) (fun i => l.length - (intOf i).toNat)
  case atStart => exact ⟨0, by omega, by omega, rfl, Lib.hid (fun j hj => by omega)⟩
  case round =>
    obtain ⟨k, hk, hk2, rfl, hj⟩ := hrel
    by_cases hlt : k < l.length
    · by_cases h200 : k < 200
      · obtain ⟨ad, B, d, rfl, e1, e2, e3⟩ := hs.at_ k hlt
        have hc3 := e3.cap
        have hm3 := e3.max
        rw [ic_length] at hc3
        generalize hn : (opAt l k).2.length = n at e2 hc3
        clear e1 e3
        by_cases h40 : 40 < n
        · go_wp2
          go_ret
          exact ⟨false, rfl, (by intro h; cases h), rfl⟩
        · go_wp2
          go_round
          case rel => exact ⟨k + 1, by omega, by omega, by go_num, Lib.hid (fun j hj' => by
            rcases Nat.lt_succ_iff_lt_or_eq.1 hj' with h | rfl
            · exact hj.out j h
            · rw [hn]; omega)⟩
          case measure => simp [intOf]; omega
      · have h3 : ¬ l.length ≤ 120 := by omega
        go_wp2
        go_ret
        exact ⟨_, rfl, (by intro h; exact absurd (of_decide_eq_true h) (by omega)), rfl⟩
    · obtain rfl : k = l.length := by omega
      have hall : ∀ z ∈ l, z.2.length ≤ 40 := fun z hz => by
        obtain ⟨j, hj', rfl⟩ := List.getElem_of_mem hz
        have := hj.out j hj'
        simpa [opAt, List.getD, List.getElem?_eq_getElem hj'] using this
      have HA := Lib.hid hall
      clear hall hj
      go_wp2
      go_ret
      exact ⟨_, rfl, fun h => ⟨by have := of_decide_eq_true h; omega, HA.out⟩, rfl⟩

theorem trim_steps (lo hi : Int) (s : St) : s.steps ≤ (s.trim lo hi).steps ∧ (s.trim lo hi).steps ≤ s.steps + 1 := by
  unfold St.trim
  split <;> simp <;> omega
theorem begin_steps (lo hi : Int) (s : St) : s.steps ≤ (s.begin lo hi).steps ∧ (s.begin lo hi).steps ≤ s.steps + 2 := by
  have := trim_steps lo hi s.bgn
  simp only [St.begin, St.bgn] at *
  omega
theorem next_steps (lo hi : Int) (s : St) : s.steps ≤ (s.next lo hi).steps ∧ (s.next lo hi).steps ≤ s.steps + 2 := by
  have := trim_steps lo hi s.nxt
  simp only [St.next, St.nxt] at *
  omega
theorem len_ge (s : St) : s.cs.length ≤ s.len ∧ s.len ≤ s.cs.length + 1 := by unfold St.len; split <;> omega

set_option maxRecDepth 100000 in
set_option maxHeartbeats 4000000 in
theorem steps_law (low span : Int) (o : Bool) (l : List Opn) (A : Option Addr) (c : Nat) (w : World) (h0 : 0 ≤ low) (h1 : low ≤ 4294967295) (h2 : 0 ≤ span) (h3 : span ≤ 4294967295)
    (hx : Opns w A c l) (bl : ByteOps l) :
    Calls Try.prog 4 #[.agg #[.int .u32 low, .int .u32 span, .bool o], .slice A l.length c] w fun e w' => e = .returned (.bool true) ∧ Below w.heap.size w w' := by
  have hcap1 := hx.cap
  have hmax1 := hx.max
  have hbox : (w.alloc (.cells #[.int .u32 low, .int .u32 span, .bool o] 24)).heap[w.heap.size]? = some (.cells #[.int .u32 low, .int .u32 span, .bool o] 24) := heap_alloc_new w _
  have hb0 : Below w.heap.size w (w.alloc (.cells #[.int .u32 low, .int .u32 span, .bool o] 24)) := (Below.refl _ w).alloc (Nat.le_refl _) _
  go_enter Try.func4, Try.ntmps4
  go_wp2_with fail
  refine (awake_any _).mono ?_
  rintro e w1 ⟨rfl, hb1⟩
  have hbox1 := blk_below hbox hb1
  obtain ⟨x0, x1, x2⟩ := three_cells hbox1
  have hb1' : Below w.heap.size w w1 := hb0.trans (hb1.mono (by simp))
  clear hbox hb0 hb1
  go_wp2_with fail
  refine (few_any l A c w1 (hx.below hb1')).mono ?_
  rintro e w1b ⟨b, rfl, hfew, rfl⟩
  cases b with
  | false =>
    clear hfew
    go_wp2_with fail
    refine (awake_any _).mono ?_
    rintro e w2 ⟨rfl, hb2⟩
    go_wp2
    go_ret
    exact ⟨rfl, hb1'.trans (hb2.mono hb1'.size)⟩
  | true =>
  obtain ⟨hl120, hl40⟩ := hfew rfl
  clear hfew
  have HL40 := Lib.hid hl40
  clear hl40
  go_wp2_with fail
  refine (scope_any low span o w1 h0 h1 h2 h3).mono ?_
  rintro e w2 ⟨lo, hi, rfl, hsc, hb2⟩
  have lw : Lw w (w2.alloc (.cells #[.int .i64 lo, .int .i64 hi] 28)) w2.heap.size lo hi :=
    ⟨heap_alloc_new w2 _, (hb1'.trans (hb2.mono hb1'.size)).alloc (by have := hb1'.size; have := hb2.size; omega) _, by have := hb1'.size; have := hb2.size; omega⟩
  clear x0 x1 x2 hbox1 hb1' hb2
  obtain ⟨p, hp⟩ : ∃ p, p = w2.heap.size := ⟨_, rfl⟩
  rw [← hp] at lw
  go_wp2_with fail
  refine (new_any lo hi _).mono ?_
  rintro e w3 ⟨g, rfl, st, hg, hb3⟩
  rw [← hp]
  obtain ⟨base, hbase⟩ : ∃ base, base = (w2.alloc (.cells #[.int .i64 lo, .int .i64 hi] 28)).heap.size := ⟨_, rfl⟩
  have lw3 := lw.next hb3
  have hpb : p < base := by have := lw.plt; omega
  have hbs : base ≤ w3.heap.size := by have := hb3.size; omega
  rw [← hbase] at st
  have hgb : base ≤ g := by rw [hbase]; simp at hg ⊢; omega
  clear hp hbase lw hb3 hg
  go_wp2
  go_loopw [7] (fun i wr => ∃ (k : Nat) (s : St), k ≤ l.length ∧ i = .int .i64 k ∧ SetIs wr g base lo hi s ∧ s.Sane (42 + k) ∧ Lw w wr p lo hi ∧ base ≤ wr.heap.size) (fun i _ => l.length - (intOf i).toNat)
  case atStart => exact ⟨0, St.new, by omega, rfl, st, St.sane_new _ (by omega), lw3, hbs⟩
  case round =>
    clear st lw3 hbs
    obtain ⟨k, s, hk, rfl, st, ss, lwr, hbr⟩ := hrel
    obtain ⟨c0, c1⟩ := lwr.cells
    by_cases hlt : k < l.length
    · obtain ⟨ad, B, d, rfl, e1, e2, e3⟩ := (hx.below lwr.ext).at_ k hlt
      have hz := bl _ (opAt_mem hlt)
      have hz40 := HL40.out _ (opAt_mem hlt)
      generalize opAt l k = op at e1 e2 e3 hz hz40
      obtain ⟨kd, os⟩ := op
      dsimp only at e1 e2 e3 hz hz40
      obtain ⟨⟨hz0, hz1⟩, hzb⟩ := hz
      have HZB := Lib.hid hzb
      clear hzb
      have s0 := ss.st0
      have s1 := ss.st1
      have slen := ss.length
      go_wp2_with fail
      refine (steps_any g base lo hi s wr st).mono ?_
      rintro e w5 ⟨rfl, rfl⟩
      by_cases h30 : kd % 3 = 0
      · have e30 : (kd % 3 == 0) = true := by simpa using h30
        go_wp2_with fail
        refine (begin_any g base lo hi _ s wr hsc st ss (by omega) (by omega) hgb hbr).mono ?_
        rintro e w6 ⟨rfl, st6, hb6⟩
        have ss6 := ss.begin (lo := lo) (hi := hi) (by omega)
        have hst := begin_steps lo hi s
        have lw6 := lwr.nextB hb6 hpb
        have hb6' := hb6.size
        generalize s.begin lo hi = s' at *
        clear st hb6 lwr e1 e2 e3 c0 c1
        obtain ⟨c0, c1⟩ := lw6.cells
        have q1 := steps_any g base lo hi s' w6 st6
        have r0 := ss6.st0
        have r1 := ss6.st1
        have f1 : decide (s'.steps < s.steps) = false := by simp; omega
        have f2 : decide (2 < s'.steps - s.steps) = false := by simp; omega
        go_wp2_with fail
        refine q1.mono ?_
        rintro e w7 ⟨rfl, rfl⟩
        go_wp2_with fail
        refine q1.mono ?_
        rintro e w7 ⟨rfl, rfl⟩
        go_wp2
        exact ⟨⟨k + 1, s', by omega, by go_num, st6, by rw [show (42 + ((k + 1 : Nat) : Int)) = 42 + k + 1 by omega]; exact ss6, lw6, by omega⟩, by simp [intOf]; omega⟩
      · by_cases h31 : kd % 3 = 1
        · have e30 : (kd % 3 == 0) = false := by simpa using h30
          have e31 : (kd % 3 == 1) = true := by simpa using h31
          go_wp2_with fail
          refine (next_any g base lo hi _ s wr hsc st ss (by omega)).mono ?_
          rintro e w6 ⟨rfl, st6, hb6⟩
          have ss6 := ss.next (lo := lo) (hi := hi)
          have hst := next_steps lo hi s
          have lw6 := lwr.fr hb6 (by omega)
          have hb6' := hb6.size
          generalize s.next lo hi = s' at *
          clear st hb6 lwr e1 e2 e3 c0 c1
          obtain ⟨c0, c1⟩ := lw6.cells
          have q1 := steps_any g base lo hi s' w6 st6
          have r0 := ss6.st0
          have r1 := ss6.st1
          have f1 : decide (s'.steps < s.steps) = false := by simp; omega
          have f2 : decide (2 < s'.steps - s.steps) = false := by simp; omega
          go_wp2_with fail
          refine q1.mono ?_
          rintro e w7 ⟨rfl, rfl⟩
          go_wp2_with fail
          refine q1.mono ?_
          rintro e w7 ⟨rfl, rfl⟩
          go_wp2
          exact ⟨⟨k + 1, s', by omega, by go_num, st6, by rw [show (42 + ((k + 1 : Nat) : Int)) = 42 + k + 1 by omega]; exact ss6, lw6, by omega⟩, by simp [intOf]; omega⟩
        · have e30 : (kd % 3 == 0) = false := by simpa using h30
          have e31 : (kd % 3 == 1) = false := by simpa using h31
          have hS := fun W (h : Below wr.heap.size wr W) => small_any lo hi os B d W hsc (e3.below h) (by omega) HZB.out
          have so := smallSt_sane lo hi os
          have sO : (smallSt lo hi os).Sane (42 + k) := so.mono (by omega)
          clear so
          have lwD := lwr.drew
          have hbD : Below wr.heap.size wr wr.drew := below_drew (Below.refl _ _)
          have hbn : ∀ w', Below wr.drew.heap.size wr.drew w' → Below wr.heap.size wr w' := fun w' h => ⟨h.os, h.tape, h.output, h.size, h.block⟩
          go_wp2
          go_region_law (go_simp; go_at_call 18; refine (hS _ hbD).mono ?_; rintro e w6 ⟨g2, rfl, st2, hg2, hb6⟩; have hb6' := hbn _ hb6)
          all_goals
            obtain ⟨b2, k2⟩ : ∃ b, SetIs w6 g2 b lo hi (smallSt lo hi os) := ⟨_, st2⟩
            have k1 := st.below hb6'
            have lw6 := lwr.next hb6'
            have n12 : g ≠ g2 := by
              have h1 := st.lt
              have h2 : wr.heap.size ≤ g2 := hg2
              omega
            have m6 := hb6'.size
            clear st st2 hb6 hb6' hg2 lwD lwr e1 e2 e3 c0 c1
            obtain ⟨c0, c1⟩ := lw6.cells
            have g1 := len_ge s
            have g3 := len_ge (smallSt lo hi os)
            have r2 := sO.length
            have r3 := mrgN_le s.cs (smallSt lo hi os).cs
            generalize smallSt lo hi os = t at *
            go_wp2_with fail
            refine (len_any g base lo hi _ s w6 k1 ss (by omega)).mono ?_
            rintro e w7 ⟨rfl, rfl⟩
            go_wp2_with fail
            refine (len_any g2 b2 lo hi _ t w6 k2 sO (by omega)).mono ?_
            rintro e w7 ⟨rfl, rfl⟩
            go_wp2_with fail
            refine (merge_any g base g2 b2 lo hi _ s t w6 k1 k2 n12 ss sO (by omega) (by omega)).mono ?_
            rintro e w8 ⟨rfl, k3, hf8⟩
            have lw8 := lw6.fr hf8 (by omega)
            have ss8 := ss.merge sO (by omega)
            have m8 := hf8.size
            have hst : (s.merge t).steps = s.steps + mrgN s.cs t.cs + 1 := rfl
            have k4 : SetIs w8 g base lo hi (s.merge t) := by
              obtain ⟨v, x1, x2⟩ := k3
              exact ⟨v, x1, x2.mono fun k hk => by have := (x2.lt k hk).1; omega⟩
            generalize s.merge t = s' at *
            have hst1 : s.steps ≤ s'.steps := by omega
            have hst2 : s'.steps - s.steps ≤ 2 + 2 * ((s.len : Int) + (t.len : Int)) := by omega
            clear k1 k2 k3 hf8 lw6 c0 c1 hst
            obtain ⟨c0, c1⟩ := lw8.cells
            have q1 := steps_any g base lo hi s' w8 k4
            have r0 := ss8.st0
            have r1 := ss8.st1
            have f1 : decide (s'.steps < s.steps) = false := by simp; omega
            have f2 : decide (2 + 2 * ((s.len : Int) + (t.len : Int)) < s'.steps - s.steps) = false := by simp; omega
            go_wp2_with fail
            refine q1.mono ?_
            rintro e w9 ⟨rfl, rfl⟩
            go_wp2_with fail
            refine q1.mono ?_
            rintro e w9 ⟨rfl, rfl⟩
            go_wp2
            exact ⟨⟨k + 1, s', by omega, by go_num, k4, by rw [show (42 + ((k + 1 : Nat) : Int)) = 42 + k + 1 by omega]; exact ss8, lw8, by omega⟩, by simp [intOf]; omega⟩
    · go_wp2
      go_ret
      exact ⟨rfl, lwr.ext⟩
end Go.Proofs.Ytmfmniecoaihhaa
