/- The walks of the statements CsetClones and CsetMerges. -/
import Derived.Test.YtmfmniecoaihhaaCsA
namespace Go.Proofs.Ytmfmniecoaihhaa
open Go.RowKit

/-- A set, all of whose blocks lie below B. -/
def SetW (w : World) (g base B : Nat) (lo hi : Int) (s : St) : Prop :=
  ∃ v, w.heap[g]? = some (.cells #[.int .i64 lo, .int .i64 hi, .int .i64 s.off, v, .bool s.full, .int .i64 s.steps] 50) ∧ Qu w base 2 v (qc s.off s.cs) ∧ g < B ∧ ∀ k, v.ownBlock = some k → k < B
namespace SetW
variable {w w' : World} {g base B : Nat} {lo hi : Int} {s : St}
theorem is (h : SetW w g base B lo hi s) : SetIs w g base lo hi s := by
  obtain ⟨v, h1, h2, _⟩ := h
  exact ⟨v, h1, h2⟩
theorem of (h : SetIs w g base lo hi s) : SetW w g base w.heap.size lo hi s := by
  obtain ⟨v, h1, h2⟩ := h
  exact ⟨v, h1, h2, blk_lt h1, fun k hk => (h2.lt k hk).2⟩
theorem keep (h : SetW w g base B lo hi s) (hb : Below B w w') : SetW w' g base B lo hi s := by
  obtain ⟨v, h1, h2, h3, h4⟩ := h
  exact ⟨v, (hb.block g h3).trans h1, h2.keep fun k hk _ => hb.block k (h4 k hk), h3, h4⟩
theorem fr {g' B' : Nat} (h : SetW w g base B lo hi s) (hf : Fr B' g' w w') (hB : B ≤ B') (hg : B ≤ g') : SetW w' g base B lo hi s := h.keep (hf.below hB hg)
theorem mono {B' : Nat} (h : SetW w g base B lo hi s) (hB : B ≤ B') : SetW w g base B' lo hi s := by
  obtain ⟨v, h1, h2, h3, h4⟩ := h
  exact ⟨v, h1, h2, by omega, fun k hk => by have := h4 k hk; omega⟩
theorem lt (h : SetW w g base B lo hi s) : g < B := by
  obtain ⟨v, h1, h2, h3, h4⟩ := h
  exact h3
end SetW
/-- Numbers that lie below B. -/
structure SlW (w : World) (A : Option Addr) (c B : Nat) (xs : List Value) : Prop where
  sl : Sl w A c xs
  lt : ∀ ad, A = some ad → 0 < xs.length → ad.block < B
namespace SlW
variable {w w' : World} {A : Option Addr} {c B : Nat} {xs : List Value}
theorem of (h : Sl w A c xs) : SlW w A c w.heap.size xs := ⟨h, fun ad e hx => h.lt hx ad e⟩
theorem keep (h : SlW w A c B xs) (hb : Below B w w') : SlW w' A c B xs := by
  refine ⟨⟨h.sl.cap, h.sl.max, h.sl.nil, fun ad e j u hu => ?_⟩, h.lt⟩
  have hx : 0 < xs.length := by have := (List.getElem?_eq_some_iff.1 hu).1; omega
  rw [hb.cell (p := ad.add j) (by rw [addr_block]; exact h.lt ad e hx)]
  exact h.sl.cell ad e j u hu
theorem fr {g' B' : Nat} (h : SlW w A c B xs) (hf : Fr B' g' w w') (hB : B ≤ B') (hg : B ≤ g') : SlW w' A c B xs := h.keep (hf.below hB hg)
theorem mono {B' : Nat} (h : SlW w A c B xs) (hB : B ≤ B') : SlW w A c B' xs := ⟨h.sl, fun ad e hx => by have := h.lt ad e hx; omega⟩
end SlW
theorem sl_fr {w w' : World} {A : Option Addr} {c g : Nat} {xs : List Value} (h : Sl w A c xs) (hf : Fr w.heap.size g w w') (hg : ∀ ad, A = some ad → g < ad.block) : Sl w' A c xs := by
  refine ⟨h.cap, h.max, h.nil, fun ad e j u hu => ?_⟩
  have hx : 0 < xs.length := by have := (List.getElem?_eq_some_iff.1 hu).1; omega
  have h1 := h.lt hx ad e
  have h2 := hg ad e
  rw [hf.cell (p := ad.add j) (by rw [addr_block]; exact h1) (by rw [addr_block]; omega)]
  exact h.cell ad e j u hu
theorem SetIs.frS {w w' : World} {g g' base base' : Nat} {lo hi lo' hi' : Int} {s s' : St} (h : SetIs w g base lo hi s) (k : SetIs w g' base' lo' hi' s') (hf : Fr w.heap.size g' w w') (hne : g ≠ g') : SetIs w' g base lo hi s := by
  obtain ⟨v', k1, _⟩ := k
  exact h.fr hf hne (hg' := ⟨_, _, k1⟩)

/-- What calls make of a set. -/
def runSt (lo hi : Int) (s : St) (l : List Int) : St := l.foldl (fun s x => if x % 3 = 0 then s.begin lo hi else s.next lo hi) s
theorem runSt_snoc (lo hi : Int) (s : St) (l : List Int) (x : Int) : runSt lo hi s (l ++ [x]) = if x % 3 = 0 then (runSt lo hi s l).begin lo hi else (runSt lo hi s l).next lo hi := by simp [runSt]
theorem runSt_sane (lo hi : Int) (s : St) (l : List Int) {b : Int} (hs : s.Sane b) (hb : 1 ≤ b) : (runSt lo hi s l).Sane (b + l.length) := by
  suffices h : ∀ l : List Int, (runSt lo hi s l.reverse).Sane (b + l.length) by simpa using h l.reverse
  intro l
  induction l with
  | nil => simpa [runSt] using hs
  | cons x l ih =>
    rw [List.reverse_cons, runSt_snoc, List.length_cons, show (b + ((l.length + 1 : Nat) : Int)) = b + l.length + 1 by omega]
    split
    · exact ih.begin (by omega)
    · exact ih.next
theorem counts_length {b lo : Int} {s : St} (hs : s.Sane b) (hb : b ≤ 1000) : (s.counts lo).length ≤ 1001 := by
  have := hs.length
  unfold St.counts
  split <;> simp <;> omega

set_option maxRecDepth 100000 in
set_option maxHeartbeats 2000000 in
theorem clones_law (low span : Int) (o : Bool) (x y : List Int) (A B : Option Addr) (c d : Nat) (w : World) (h0 : 0 ≤ low) (h1 : low ≤ 4294967295) (h2 : 0 ≤ span) (h3 : span ≤ 4294967295)
    (hx : Sl w A c (ic .u8 x)) (hy : Sl w B d (ic .u8 y)) (bx : ∀ z ∈ x, 0 ≤ z ∧ z ≤ 255) (by_ : ∀ z ∈ y, 0 ≤ z ∧ z ≤ 255) :
    Calls Try.prog 6 #[.agg #[.int .u32 low, .int .u32 span, .bool o], .slice A x.length c, .slice B y.length d] w fun e w' => e = .returned (.bool true) ∧ Below w.heap.size w w' := by
  have hcap1 := hx.cap
  have hmax1 := hx.max
  have hcap2 := hy.cap
  have hmax2 := hy.max
  rw [ic_length] at hcap1 hcap2
  have hbox : (w.alloc (.cells #[.int .u32 low, .int .u32 span, .bool o] 24)).heap[w.heap.size]? = some (.cells #[.int .u32 low, .int .u32 span, .bool o] 24) := heap_alloc_new w _
  have hb0 : Below w.heap.size w (w.alloc (.cells #[.int .u32 low, .int .u32 span, .bool o] 24)) := (Below.refl _ w).alloc (Nat.le_refl _) _
  go_enter Try.func6, Try.ntmps6
  go_wp2_with fail
  refine (awake_any _).mono ?_
  rintro e w1 ⟨rfl, hb1⟩
  have hbox1 := blk_below hbox hb1
  obtain ⟨x0, x1, x2⟩ := three_cells hbox1
  have hb1' : Below w.heap.size w w1 := hb0.trans (hb1.mono (by simp))
  clear hbox hb0 hb1
  by_cases hlen : 120 < x.length ∨ 40 < y.length
  · have fin : ∀ w2, Below w1.heap.size w1 w2 → Below w.heap.size w w2 := fun w2 hb => hb1'.trans (hb.mono hb1'.size)
    by_cases hl1 : 120 < x.length
    · clear hlen
      go_wp2_with fail
      refine (awake_any _).mono ?_
      rintro e w2 ⟨rfl, hb2⟩
      go_wp2
      go_ret
      exact ⟨rfl, fin _ hb2⟩
    · have hl2 : 40 < y.length := by omega
      clear hlen
      go_wp2_with fail
      refine (awake_any _).mono ?_
      rintro e w2 ⟨rfl, hb2⟩
      go_wp2
      go_ret
      exact ⟨rfl, fin _ hb2⟩
  have hl1 : ¬ 120 < x.length := by omega
  have hl2 : ¬ 40 < y.length := by omega
  clear hlen
  go_wp2_with fail
  refine (scope_any low span o w1 h0 h1 h2 h3).mono ?_
  rintro e w2 ⟨lo, hi, rfl, hsc, hb2⟩
  have lw : Lw w (w2.alloc (.cells #[.int .i64 lo, .int .i64 hi] 28)) w2.heap.size lo hi :=
    ⟨heap_alloc_new w2 _, (hb1'.trans (hb2.mono hb1'.size)).alloc (by have := hb1'.size; have := hb2.size; omega) _, by have := hb1'.size; have := hb2.size; omega⟩
  clear x0 x1 x2 hbox1 hb1' hb2
  obtain ⟨p, hp⟩ : ∃ p, p = w2.heap.size := ⟨_, rfl⟩
  rw [← hp] at lw
  have sx := smallSt_sane lo hi x
  go_wp2_with fail
  refine (small_any lo hi x A c _ hsc (hx.below lw.ext) (by omega) bx).mono ?_
  rintro e w3 ⟨g1, rfl, st, hg1, hb3⟩
  rw [← hp]
  have lw3 := lw.next hb3
  obtain ⟨base1, sw⟩ : ∃ base1, SetW w3 g1 base1 w3.heap.size lo hi (smallSt lo hi x) := ⟨_, SetW.of st⟩
  clear hp lw hb3 hg1 st
  obtain ⟨c0, c1⟩ := lw3.cells
  go_wp2_with fail
  refine (counts_any g1 _ lo hi _ (smallSt lo hi x) w3 hsc sw.is sx (by omega)).mono ?_
  rintro e w4 ⟨A4, c4, rfl, hsl, hb4, _⟩
  have lw4 := lw3.next hb4
  have sw4 := sw.keep hb4
  have wl := SlW.of hsl
  have hbl := counts_length (lo := lo) sx (by omega)
  have hs34 := hb4.size
  clear c0 c1 lw3 sw hb4 hsl
  obtain ⟨c0, c1⟩ := lw4.cells
  go_wp2_with fail
  refine (cclone_any g1 _ lo hi _ (smallSt lo hi x) w4 sw4.is sx (by omega)).mono ?_
  rintro e w5 ⟨g2, rfl, st5, hg2, hb5⟩
  have lw5 := lw4.next hb5
  have sw5 := (sw4.mono hs34).keep hb5
  have wl5 := wl.keep hb5
  have hp4 := lw4.plt
  have hs45 := hb5.size
  have hne : ∀ w : World, (binOp .eql 30 (.pointer (some ⟨g2, 0, none⟩)) (.pointer none)).run Try.prog w = .ok (.bool false) w := fun _ => by kernel_rfl
  clear c0 c1 lw4 sw4 wl hb5
  obtain ⟨c0, c1⟩ := lw5.cells
  generalize hB : w4.heap.size = Bd at *
  clear hB
  go_wp2_with fail
  refine (counts_any g2 _ lo hi _ (smallSt lo hi x) w5 hsc st5 sx (by omega)).mono ?_
  rintro e w6 ⟨A6, c6, rfl, hsl6, hb6, _⟩
  have lw6 := lw5.next hb6
  have sw6 := sw5.keep (hb6.mono hs45)
  have wl6 := wl5.keep (hb6.mono hs45)
  have st6 := st5.below hb6
  have hs56 := hb6.size
  clear c0 c1 lw5 sw5 wl5 st5 hb6
  obtain ⟨c0, c1⟩ := lw6.cells
  generalize hL : (smallSt lo hi x).counts lo = L at *
  go_wp2_with fail
  refine (same_any L L A6 A4 c6 c4 w6 hsl6 wl6.sl (by omega) (by omega)).mono ?_
  rintro e w7 ⟨rfl, hb7⟩
  have lw7 := lw6.next hb7
  have sw7 := sw6.keep (hb7.mono (by omega))
  have wl7 := wl6.keep (hb7.mono (by omega))
  have st7 := st6.below hb7
  have hs67 := hb7.size
  rw [show decide (L = L) = true by simp]
  clear c0 c1 lw6 sw6 wl6 st6 hb7 hsl6
  go_wp2
  go_loopw [11] (fun i wr => ∃ k : Nat, k ≤ y.length ∧ i = .int .i64 k ∧ SetIs wr g2 Bd lo hi (runSt lo hi (smallSt lo hi x) (y.take k)) ∧ SetW wr g1 base1 Bd lo hi (smallSt lo hi x) ∧ SlW wr A4 c4 Bd (L.map (Value.int .i64)) ∧ Lw w wr p lo hi ∧ Bd ≤ wr.heap.size) (fun i _ => y.length - (intOf i).toNat)
  case atStart => exact ⟨0, by omega, rfl, by simpa [runSt] using st7, sw7, wl7, lw7, by omega⟩
  case round =>
    clear lw7 sw7 wl7 st7
    obtain ⟨k, hk, rfl, st, sw, wl, lwr, hbr⟩ := hrel
    have srun := runSt_sane lo hi (smallSt lo hi x) (y.take k) sx (by omega)
    rw [List.length_take, Nat.min_eq_left hk] at srun
    obtain ⟨c0, c1⟩ := lwr.cells
    by_cases hlt : k < y.length
    · obtain ⟨ad, rfl, hc⟩ := (hy.below lwr.ext).num hlt
      have hz := by_ _ (getD_mem hlt)
      have hsn := runSt_snoc lo hi (smallSt lo hi x) (y.take k) (y.getD k 0)
      rw [← take_snocI y k hlt] at hsn
      generalize y.getD k 0 = z at *
      have HSN := Lib.hid hsn
      clear hsn
      by_cases hz3 : z % 3 = 0
      · have e3 : (z % 3 == 0) = true := by simpa using hz3
        go_wp2_with fail
        refine (begin_any g2 Bd lo hi _ _ wr hsc st srun (by omega) (by omega) hg2 hbr).mono ?_
        rintro e w8 ⟨rfl, st8, hb8⟩
        go_wp2
        refine ⟨⟨k + 1, by omega, by go_num, ?_, sw.keep hb8, wl.keep hb8, lwr.nextB hb8 hp4, by have := hb8.size; omega⟩, by simp [intOf]; omega⟩
        rw [HSN.out, if_pos hz3]
        exact st8
      · have e3 : (z % 3 == 0) = false := by simpa using hz3
        go_wp2_with fail
        refine (next_any g2 Bd lo hi _ _ wr hsc st srun (by omega)).mono ?_
        rintro e w8 ⟨rfl, st8, hf8⟩
        go_wp2
        refine ⟨⟨k + 1, by omega, by go_num, ?_, sw.fr hf8 hbr hg2, wl.fr hf8 hbr hg2, lwr.fr hf8 (by omega), by have := hf8.size; omega⟩, by simp [intOf]; omega⟩
        rw [HSN.out, if_neg hz3]
        exact st8
    · obtain rfl : k = y.length := by omega
      rw [List.take_length] at st srun
      have hg12 := sw.lt
      go_wp2_with fail
      refine (merge_any g2 Bd g1 base1 lo hi _ _ _ wr st sw.is (by omega) srun (sx.mono (by omega)) (by omega) hbr).mono ?_
      rintro e w8 ⟨rfl, st8, hf8⟩
      have lw8 := lwr.fr hf8 (by omega)
      have sw8 := sw.fr hf8 hbr hg2
      have wl8 := wl.fr hf8 hbr hg2
      have hs8 := hf8.size
      clear c0 c1 lwr sw wl st hf8 st8
      obtain ⟨c0, c1⟩ := lw8.cells
      go_wp2_with fail
      refine (counts_any g1 base1 lo hi _ (smallSt lo hi x) w8 hsc sw8.is sx (by omega)).mono ?_
      rintro e w9 ⟨A9, c9, rfl, hsl9, hb9, _⟩
      rw [hL] at hsl9 ⊢
      have lw9 := lw8.next hb9
      have wl9 := wl8.keep (hb9.mono (by omega))
      go_wp2_with fail
      refine (same_any L L A9 A4 c9 c4 w9 hsl9 wl9.sl (by omega) (by omega)).mono ?_
      rintro e w10 ⟨rfl, hb10⟩
      rw [show decide (L = L) = true by simp]
      go_wp2
      go_ret
      exact ⟨rfl, (lw9.next hb10).ext⟩
end Go.Proofs.Ytmfmniecoaihhaa
