/- The walk of the statement CsetMerges. -/
import Derived.Test.YtmfmniecoaihhaaCsB
namespace Go.Proofs.Ytmfmniecoaihhaa
open Go.RowKit

theorem counts_eq {lo : Int} {s t : St} (h1 : s.cs = t.cs) (h2 : s.full = t.full) : s.counts lo = t.counts lo := by simp [St.counts, h1, h2]
theorem next_eq {lo hi : Int} {s t : St} (h1 : s.cs = t.cs) (h2 : s.full = t.full) : (s.next lo hi).cs = (t.next lo hi).cs ∧ (s.next lo hi).full = (t.next lo hi).full := by
  simp only [St.next, St.nxt, St.trim, h1, h2]
  by_cases h : tooBig lo hi (List.map (fun x => x + 1) t.cs) = true <;> simp [h]
theorem merges_eq {lo hi b : Int} {s t : St} (hs : s.Sane b) (ht : t.Sane b) : (((s.merge t).merge (t.merge s)).next lo hi).counts lo = ((t.merge s).next lo hi).counts lo := by
  have h1 : ((s.merge t).merge (t.merge s)).cs = (t.merge s).cs := by
    simp only [St.merge]
    refine dec_ext (mrg_dec (mrg_dec hs.dec ht.dec) (mrg_dec ht.dec hs.dec)) (mrg_dec ht.dec hs.dec) fun x => ?_
    simp only [mrg_mem]
    grind
  have h2 : ((s.merge t).merge (t.merge s)).full = (t.merge s).full := by
    simp only [St.merge]
    cases s.full <;> cases t.full <;> rfl
  obtain ⟨k1, k2⟩ := next_eq (lo := lo) (hi := hi) h1 h2
  exact counts_eq k1 k2

set_option maxRecDepth 100000 in
set_option maxHeartbeats 20000000 in
theorem merges_law (low span : Int) (o : Bool) (x y : List Int) (A B : Option Addr) (c d : Nat) (w : World) (h0 : 0 ≤ low) (h1 : low ≤ 4294967295) (h2 : 0 ≤ span) (h3 : span ≤ 4294967295)
    (hx : Sl w A c (ic .u8 x)) (hy : Sl w B d (ic .u8 y)) (bx : ∀ z ∈ x, 0 ≤ z ∧ z ≤ 255) (by_ : ∀ z ∈ y, 0 ≤ z ∧ z ≤ 255) :
    Calls Try.prog 7 #[.agg #[.int .u32 low, .int .u32 span, .bool o], .slice A x.length c, .slice B y.length d] w fun e w' => e = .returned (.bool true) ∧ Below w.heap.size w w' := by
  have hcap1 := hx.cap
  have hmax1 := hx.max
  have hcap2 := hy.cap
  have hmax2 := hy.max
  rw [ic_length] at hcap1 hcap2
  have hbox : (w.alloc (.cells #[.int .u32 low, .int .u32 span, .bool o] 24)).heap[w.heap.size]? = some (.cells #[.int .u32 low, .int .u32 span, .bool o] 24) := heap_alloc_new w _
  have hb0 : Below w.heap.size w (w.alloc (.cells #[.int .u32 low, .int .u32 span, .bool o] 24)) := (Below.refl _ w).alloc (Nat.le_refl _) _
  go_enter Try.func7, Try.ntmps7
  go_wp2_with fail
  refine (awake_any _).mono ?_
  rintro e w1 ⟨rfl, hb1⟩
  have hbox1 := blk_below hbox hb1
  obtain ⟨x0, x1, x2⟩ := three_cells hbox1
  have hb1' : Below w.heap.size w w1 := hb0.trans (hb1.mono (by simp))
  clear hbox hb0 hb1
  by_cases hlen : 40 < x.length ∨ 40 < y.length
  · have fin : ∀ w2, Below w1.heap.size w1 w2 → Below w.heap.size w w2 := fun w2 hb => hb1'.trans (hb.mono hb1'.size)
    by_cases hl1 : 40 < x.length
    · clear hlen
      go_wp2_with fail
      refine (awake_any _).mono ?_
      rintro e w2 ⟨rfl, hb2⟩
      go_wp2
      go_ret
      exact ⟨rfl, fin _ hb2⟩
    · have hl2 : 40 < y.length := by omega
      clear hlen
      go_wp2_with fail
      refine (awake_any _).mono ?_
      rintro e w2 ⟨rfl, hb2⟩
      go_wp2
      go_ret
      exact ⟨rfl, fin _ hb2⟩
  have hl1 : ¬ 40 < x.length := by omega
  have hl2 : ¬ 40 < y.length := by omega
  clear hlen
  go_wp2_with fail
  refine (scope_any low span o w1 h0 h1 h2 h3).mono ?_
  rintro e w2 ⟨lo, hi, rfl, hsc, hb2⟩
  have lw : Lw w (w2.alloc (.cells #[.int .i64 lo, .int .i64 hi] 28)) w2.heap.size lo hi :=
    ⟨heap_alloc_new w2 _, (hb1'.trans (hb2.mono hb1'.size)).alloc (by have := hb1'.size; have := hb2.size; omega) _, by have := hb1'.size; have := hb2.size; omega⟩
  clear x0 x1 x2 hbox1 hb1' hb2
  have sx := smallSt_sane lo hi x
  have sy := smallSt_sane lo hi y
  have sX : (smallSt lo hi x).Sane 100 := sx.mono (by omega)
  have sY : (smallSt lo hi y).Sane 100 := sy.mono (by omega)
  clear sx sy
  have hX := fun W (h : Below w.heap.size w W) => small_any lo hi x A c W hsc (hx.below h) (by omega) bx
  have hY := fun W (h : Below w.heap.size w W) => small_any lo hi y B d W hsc (hy.below h) (by omega) by_
  go_wp2
  obtain ⟨p, hp⟩ : ∃ p, p = w2.heap.size := ⟨_, rfl⟩
  rw [← hp] at lw ⊢
  obtain ⟨W0, hW0⟩ : ∃ W0, W0 = w2.alloc (.cells #[.int .i64 lo, .int .i64 hi] 28) := ⟨_, rfl⟩
  rw [← hW0] at lw ⊢
  clear hp hW0
  obtain ⟨c0, c1⟩ := lw.cells
  have lwD := lw.drew
  obtain ⟨cD0, cD1⟩ := lwD.cells
  have extD := lwD.ext
  have nextL := fun {wi wj : World} (h : Lw w wi p lo hi) (hb : Below wi.heap.size wi wj) => h.next hb
  go_region_held3 (fun w' => w'.cell? ⟨p, 0, none⟩ = some (.int .i64 lo) ∧ w'.cell? ⟨p, 1, none⟩ = some (.int .i64 hi))
    (first
      | exact ⟨cF0, cF1⟩
      | exact ⟨cE0, cE1⟩
      | go_keep)
    ((first
      | (go_at_call 18; refine (hY _ ext5).mono ?_; rintro e w6 ⟨g2, rfl, st6, hg2, hb6⟩; have lw6 := nextL lw5 hb6; obtain ⟨cF0, cF1⟩ := lw6.cells)
      | (go_at_call 18; refine (hX _ extD).mono ?_; rintro e w5 ⟨g1, rfl, st5, hg1, hb5⟩; have lw5 := nextL lwD hb5; have ext5 := lw5.ext; obtain ⟨cE0, cE1⟩ := lw5.cells)))
  all_goals
    obtain ⟨b1, k1, hbb1⟩ : ∃ b, SetIs w6 g1 b lo hi (smallSt lo hi x) ∧ b ≤ w6.heap.size := ⟨_, st5.below hb6, Nat.le_trans hb5.size hb6.size⟩
    obtain ⟨b2, k2, hbb2⟩ : ∃ b, SetIs w6 g2 b lo hi (smallSt lo hi y) ∧ b ≤ w6.heap.size := ⟨_, st6, hb6.size⟩
    have n12 : g1 ≠ g2 := by have := st5.lt; omega
    have l1 := k1.lt
    have l2 := k2.lt
    have p1 : p < g1 := by have := lwD.plt; omega
    have p2 : p < g2 := by have := lw5.plt; omega
    clear st5 st6 hb5 hb6 hg1 hg2 lwD lw5 cE0 cE1 cD0 cD1 c0 c1 lw extD ext5
    go_wp2_with fail
    refine (hY _ lw6.ext).mono ?_
    rintro e w7 ⟨g3, rfl, k3, hg3, hb7⟩
    have lw7 := lw6.next hb7
    have k1' := k1.below hb7
    have k2' := k2.below hb7
    have m67 := hb7.size
    clear cF0 cF1 k1 k2 hb7 lw6
    obtain ⟨c0, c1⟩ := lw7.cells
    go_wp2_with fail
    refine (merge_any g1 b1 g3 _ lo hi 100 _ _ w7 k1' k3 (by omega) sX sY (by omega) (by omega)).mono ?_
    rintro e w8 ⟨rfl, k1, hf8⟩
    have lw8 := lw7.fr hf8 p1
    have k2 := k2'.frS k1' hf8 (by omega)
    have s1 := sX.merge sY (by omega)
    have m78 := hf8.size
    clear c0 c1 k1' k2' k3 hf8 lw7 hg3
    obtain ⟨c0, c1⟩ := lw8.cells
    go_wp2_with fail
    refine (hX _ lw8.ext).mono ?_
    rintro e w9 ⟨g4, rfl, k4, hg4, hb9⟩
    have lw9 := lw8.next hb9
    have k1' := k1.below hb9
    have k2' := k2.below hb9
    have m89 := hb9.size
    clear c0 c1 k1 k2 hb9 lw8
    obtain ⟨c0, c1⟩ := lw9.cells
    go_wp2_with fail
    refine (merge_any g2 b2 g4 _ lo hi 100 _ _ w9 k2' k4 (by omega) sY sX (by omega) (by omega)).mono ?_
    rintro e w10 ⟨rfl, k2, hf10⟩
    have lw10 := lw9.fr hf10 p2
    have k1 := k1'.frS k2' hf10 n12
    have s2 := sY.merge sX (by omega)
    have m910 := hf10.size
    clear c0 c1 k1' k2' k4 hf10 lw9 hg4
    obtain ⟨c0, c1⟩ := lw10.cells
    have e1 := merges_eq (lo := lo) (hi := hi) sX sY
    have E1 := Lib.hid e1
    clear e1
    generalize (smallSt lo hi x).merge (smallSt lo hi y) = t1 at *
    generalize (smallSt lo hi y).merge (smallSt lo hi x) = t2 at *
    go_wp2_with fail
    refine (counts_any g1 _ lo hi _ t1 w10 hsc k1 s1 (by omega)).mono ?_
    rintro e w11 ⟨A1, d1, rfl, hsl, hb11, hfa⟩
    have lw11 := lw10.next hb11
    have m1011 := hb11.size
    have k1' := k1.below hb11
    have k2' := k2.below hb11
    have hll := counts_length (lo := lo) s1 (by omega)
    generalize t1.counts lo = L at *
    have a1 : ∀ ad, A1 = some ad → g1 < ad.block := fun ad e => by have := hfa ad e; omega
    have a2 : ∀ ad, A1 = some ad → g2 < ad.block := fun ad e => by have := hfa ad e; omega
    clear c0 c1 k1 k2 hfa hb11 lw10
    obtain ⟨c0, c1⟩ := lw11.cells
    go_wp2_with fail
    refine (merge_any g1 _ g2 _ lo hi 101 _ _ w11 k1' k2' n12 s1 s2 (by omega) (by omega)).mono ?_
    rintro e w12 ⟨rfl, k1, hf12⟩
    have lw12 := lw11.fr hf12 p1
    have k2 := k2'.frS k1' hf12 (by omega)
    have hsl12 := sl_fr hsl hf12 a1
    have s3 := s1.merge s2 (by omega)
    generalize t1.merge t2 = t3 at *
    clear c0 c1 k1' k2' hsl hf12 lw11
    obtain ⟨c0, c1⟩ := lw12.cells
    go_wp2_with fail
    refine (next_any g1 _ lo hi _ t3 w12 hsc k1 s3 (by omega)).mono ?_
    rintro e w13 ⟨rfl, k1', hf13⟩
    have lw13 := lw12.fr hf13 p1
    have k2' := k2.frS k1 hf13 (by omega)
    have hsl13 := sl_fr hsl12 hf13 a1
    have s4 := s3.next (lo := lo) (hi := hi)
    clear c0 c1 k1 k2 hsl12 hf13 lw12
    obtain ⟨c0, c1⟩ := lw13.cells
    go_wp2_with fail
    refine (next_any g2 _ lo hi _ t2 w13 hsc k2' s2 (by omega)).mono ?_
    rintro e w14 ⟨rfl, k2, hf14⟩
    have lw14 := lw13.fr hf14 p2
    have k1 := k1'.frS k2' hf14 n12
    have hsl14 := sl_fr hsl13 hf14 a2
    have s5 := s2.next (lo := lo) (hi := hi)
    generalize t3.next lo hi = t4 at *
    generalize t2.next lo hi = t5 at *
    clear c0 c1 k1' k2' hsl13 hf14 lw13
    obtain ⟨c0, c1⟩ := lw14.cells
    have hll4 := counts_length (lo := lo) s4 (by omega)
    have hll5 := counts_length (lo := lo) s5 (by omega)
    go_wp2_with fail
    refine (cclone_any g1 _ lo hi _ t4 w14 k1 s4 (by omega)).mono ?_
    rintro e w15 ⟨g5, rfl, k5, hg5, hb15⟩
    have lw15 := lw14.next hb15
    have k1' := k1.below hb15
    have k2' := k2.below hb15
    have hsl15 := hsl14.below hb15
    clear k1 k2 hb15 lw14 hsl14
    go_wp2_with fail
    refine (counts_any g5 _ lo hi _ t4 w15 hsc k5 s4 (by omega)).mono ?_
    rintro e w16 ⟨A6, d6, rfl, hsl6, hb16, _⟩
    have lw16 := lw15.next hb16
    have k1 := k1'.below hb16
    have k2 := k2'.below hb16
    have hsl16 := hsl15.below hb16
    clear k1' k2' k5 hb16 lw15 hsl15
    go_wp2_with fail
    refine (same_any L (t4.counts lo) A1 A6 d1 d6 w16 hsl16 hsl6 (by omega) (by omega)).mono ?_
    rintro e w17 ⟨rfl, hb17⟩
    have lw17 := lw16.next hb17
    have k1' := k1.below hb17
    have k2' := k2.below hb17
    have hsl17 := hsl16.below hb17
    clear k1 k2 hb17 lw16 hsl16 hsl6
    generalize hdd : decide (L = t4.counts lo) = dd
    go_wp2_with fail
    refine (counts_any g2 _ lo hi _ t5 w17 hsc k2' s5 (by omega)).mono ?_
    rintro e w18 ⟨A8, d8, rfl, hsl8, hb18, _⟩
    have lw18 := lw17.next hb18
    have k1 := k1'.below hb18
    have k2 := k2'.below hb18
    have hsl18 := hsl17.below hb18
    clear k1' k2' hb18 lw17 hsl17
    go_wp2_with fail
    refine (same_any L (t5.counts lo) A1 A8 d1 d8 w18 hsl18 hsl8 (by omega) (by omega)).mono ?_
    rintro e w19 ⟨rfl, hb19⟩
    have lw19 := lw18.next hb19
    have k1' := k1.below hb19
    have k2' := k2.below hb19
    rw [← E1.out, hdd]
    have hd2 : (dd == dd) = true := by simp
    clear k1 k2 hb19 lw18 hsl18 hsl8 hdd
    go_wp2_with fail
    refine (counts_any g1 _ lo hi _ t4 w19 hsc k1' s4 (by omega)).mono ?_
    rintro e w20 ⟨A9, d9, rfl, hsl9, hb20, _⟩
    have lw20 := lw19.next hb20
    have k2 := k2'.below hb20
    clear k1' k2' hb20 lw19
    go_wp2_with fail
    refine (counts_any g2 _ lo hi _ t5 w20 hsc k2 s5 (by omega)).mono ?_
    rintro e w21 ⟨A10, d10, rfl, hsl10, hb21, _⟩
    have lw21 := lw20.next hb21
    have hsl9' := hsl9.below hb21
    clear k2 hb21 lw20 hsl9
    rw [← E1.out] at hsl10 ⊢
    go_wp2_with fail
    refine (same_any (t4.counts lo) (t4.counts lo) A9 A10 d9 d10 w21 hsl9' hsl10 (by omega) (by omega)).mono ?_
    rintro e w22 ⟨rfl, hb22⟩
    rw [show decide (t4.counts lo = t4.counts lo) = true by simp]
    go_wp2
    go_ret
    exact ⟨rfl, (lw21.next hb22).ext⟩
end Go.Proofs.Ytmfmniecoaihhaa
