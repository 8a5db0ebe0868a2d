/- The walks of layer 9's Do and of the statement CsetPlays. -/
import Derived.Test.YtmfmniecoaihhaaCsQ
namespace Go.Proofs.Ytmfmniecoaihhaa
open Go.RowKit

/-- What a call makes of a set. -/
def doSt (lo hi : Int) (s : St) (z : Opn) : St := if z.1 % 3 = 0 then s.begin lo hi else if z.1 % 3 = 1 then s.next lo hi else s.merge (smallSt lo hi z.2)
def RetD (A : Option Addr) (l0 l : List Int) (w : World) (e : Ending) (w' : World) : Prop :=
  ∃ A' c', e = .returned (.slice A' l.length c') ∧ Sl w' A' c' (ic .i64 l) ∧ Below w.heap.size w w' ∧ ((∀ ad, A' = some ad → w.heap.size ≤ ad.block) ∨ (A' = A ∧ l = l0))
theorem fold_length (m L : List Int) : (m.foldl (fun l n => putR n l false) L).length ≤ L.length + m.length := by
  induction m generalizing L with
  | nil => simp
  | cons x m ih =>
    rw [List.foldl_cons, List.length_cons]
    have := ih (putR x L false)
    have := putR_length x L false
    omega

set_option maxRecDepth 100000 in
set_option maxHeartbeats 2000000 in
theorem rdo_any (lo hi b : Int) (s : St) (z : Opn) (A B : Option Addr) (c d : Nat) (w : World) (hsc : Sc lo hi) (ss : s.Sane b) (hb : b ≤ 500) (hg : Good lo hi s) (hs : Sl w A c (ic .i64 (s.counts lo))) (ho : Sl w B d (ic .u8 z.2))
    (hz : 0 ≤ z.1 ∧ z.1 ≤ 255) (hz40 : z.2.length ≤ 40) (hzb : ∀ x ∈ z.2, 0 ≤ x ∧ x ≤ 255) :
    Calls Try.prog 22 #[.agg #[.int .i64 lo, .int .i64 hi], .slice A (s.counts lo).length c, .agg #[.int .u8 z.1, .slice B z.2.length d]] w (RetD A (s.counts lo) ((doSt lo hi s z).counts lo) w) := by
  have hcl := counts_length (lo := lo) ss (by omega)
  have e1 := begin_put hsc hg
  have e2 := (next_facts hsc hg).2
  have e3 := (merge_facts hg (small_good hsc z.2)).2
  have hcb := counts_bound hsc hg
  have hml := counts_length (lo := lo) (smallSt_sane lo hi z.2) (by omega)
  obtain ⟨kd, os⟩ := z
  dsimp only at *
  have hD : doSt lo hi s (kd, os) = if kd % 3 = 0 then s.begin lo hi else if kd % 3 = 1 then s.next lo hi else s.merge (smallSt lo hi os) := rfl
  have E1 := Lib.hid e1
  have E2 := Lib.hid e2
  have E3 := Lib.hid e3
  have HD := Lib.hid hD
  have HCB := Lib.hid hcb
  clear e1 e2 e3 hD hcb
  generalize hL : s.counts lo = L at *
  have hb1 : ∀ w', Below (w.heap.size) ((w.alloc (.cells #[.int .i64 lo, .int .i64 hi] 28)).alloc (.cells #[.int .u8 kd, .slice B os.length d] 40)) w' → Below w.heap.size w w' := fun w' h =>
    (((Below.refl _ w).alloc (Nat.le_refl _) _).alloc (by simp) _).trans h
  have hs1 := (hs.alloc (.cells #[.int .i64 lo, .int .i64 hi] 28)).alloc (.cells #[.int .u8 kd, .slice B os.length d] 40)
  have ho1 := (ho.alloc (.cells #[.int .i64 lo, .int .i64 hi] 28)).alloc (.cells #[.int .u8 kd, .slice B os.length d] 40)
  have hsz : ((w.alloc (.cells #[.int .i64 lo, .int .i64 hi] 28)).alloc (.cells #[.int .u8 kd, .slice B os.length d] 40)).heap.size = w.heap.size + 2 := by simp
  by_cases h30 : kd % 3 = 0
  · have f0 : (kd % 3 == 0) = true := by simpa using h30
    go_enter Try.func22, Try.ntmps22
    go_wp2_with fail
    refine (put_any L 1 A c _ hs1 (by omega)).mono ?_
    rintro e w2 ⟨A2, c2, rfl, hs2, hb2, hf2⟩
    go_wp2
    go_ret
    rw [HD.out, if_pos h30, ← E1.out]
    exact ⟨A2, c2, rfl, hs2, hb1 _ (hb2.mono (by omega)), (.inl fun ad e => by have := hf2 ad e; omega)⟩
  · have f0 : (kd % 3 == 0) = false := by simpa using h30
    by_cases h31 : kd % 3 = 1
    · have f1 : (kd % 3 == 1) = true := by simpa using h31
      go_enter Try.func22, Try.ntmps22
      go_wp2_with fail
      refine (rnext_any lo hi L A c _ hsc hs1 (by omega) HCB.out).mono ?_
      rintro e w2 ⟨A2, c2, rfl, hs2, hb2, hf2⟩
      go_wp2
      go_ret
      rw [HD.out, if_neg h30, if_pos h31, ← E2.out]
      exact ⟨A2, c2, rfl, hs2, hb1 _ (hb2.mono (by omega)), (.inl fun ad e => by have := hf2 ad e; omega)⟩
    · have f1 : (kd % 3 == 1) = false := by simpa using h31
      rw [HD.out, if_neg h30, if_neg h31, ← E3.out]
      generalize hM : (smallSt lo hi os).counts lo = M at *
      have q1 := rsmall_any lo hi os B d _ hsc ho1 (by omega) hzb
      rw [hM] at q1
      have HM := Lib.hid hM
      have HL := Lib.hid hL
      clear hM hL E1 E2 E3 HD ho1 ho
      go_enter Try.func22, Try.ntmps22
      go_wp2_with fail
      refine q1.mono ?_
      rintro e w2 ⟨A2, c2, rfl, hm2, hb2, hf2⟩
      have hs2 := hs1.below hb2
      have hb2' := hb1 _ (hb2.mono (by omega))
      clear hb2 hs1 q1
      go_wp2
      go_loopw [1, 8] (fun lv i wr => ∃ (k : Nat) (out : List Int) (C : Option Addr) (cc : Nat), k ≤ M.length ∧ i = .int .i64 k ∧ lv = .slice C out.length cc ∧ Sl wr C cc (ic .i64 out) ∧ Sl wr A2 c2 (ic .i64 M) ∧ out.length ≤ L.length + k ∧ Hid ((M.drop k).foldl (fun l n => putR n l false) out = M.foldl (fun l n => putR n l false) L) ∧ Below w.heap.size w wr ∧ ((∀ ad, C = some ad → w.heap.size ≤ ad.block) ∨ (C = A ∧ out = L))) (fun _ i _ => M.length - (intOf i).toNat)
      case atStart => exact ⟨0, L, A, c, by omega, rfl, rfl, hs2, hm2, by omega, Lib.hid rfl, hb2', .inr ⟨rfl, rfl⟩⟩
      case round =>
        clear hs2 hm2 hb2'
        obtain ⟨k, out, C, cc, hk, rfl, rfl, ho, hm, hol, hh, hbr, hC⟩ := hrel
        by_cases hlt : k < M.length
        · obtain ⟨ad, rfl, hc⟩ := hm.num hlt
          have hd : M.drop k = M.getD k 0 :: M.drop (k + 1) := by
            rw [List.drop_eq_getElem_cons hlt]
            simp [List.getD, List.getElem?_eq_getElem hlt]
          have hstep := hh.out
          rw [hd, List.foldl_cons] at hstep
          generalize M.getD k 0 = x at hc hstep
          have HS := Lib.hid hstep
          clear hstep hd hh
          have hpl := putR_length x out false
          go_wp2_with fail
          refine (put_any out x C cc wr ho (by omega)).mono ?_
          rintro e w3 ⟨A3, c3, rfl, hs3, hb3, hf3⟩
          have hbs := hbr.size
          go_wp2
          exact ⟨⟨k + 1, _, A3, c3, by omega, by go_num, rfl, hs3, hm.below hb3, by omega, HS, hbr.trans (hb3.mono hbs), .inl fun ad e => by have := hf3 ad e; omega⟩, by simp [intOf]; omega⟩
        · obtain rfl : k = M.length := by omega
          have hh' := hh.out
          rw [List.drop_length, List.foldl_nil] at hh'
          subst hh'
          go_wp2
          go_ret
          exact ⟨C, cc, rfl, ho, hbr, hC⟩

theorem sl_frq {w w' : World} {A : Option Addr} {c g : Nat} {q : Option Nat} {xs : List Value} (h : Sl w A c xs) (hf : FrQ w w' g q) (hg : ∀ ad, A = some ad → 0 < xs.length → ad.block ≠ g ∧ some ad.block ≠ q) : Sl w' A c xs := by
  refine ⟨h.cap, h.max, h.nil, fun ad e j u hu => ?_⟩
  have hx : 0 < xs.length := by have := (List.getElem?_eq_some_iff.1 hu).1; omega
  have h1 := h.lt hx ad e
  obtain ⟨h2, h3⟩ := hg ad e hx
  have e2 := hf.block ad.block h1 h2 h3
  rw [World.cell?_of_block (a := ad.add j) (w := w) (by rw [addr_block]; exact e2)]
  exact h.cell ad e j u hu
/-- What a round of the statement CsetPlays keeps. -/
structure Pl (w wr : World) (g base p : Nat) (lo hi : Int) (s : St) (q : Option Nat) (B : Option Addr) (d : Nat) (k : Int) : Prop where
  set : SetQ wr g base lo hi s q
  want : Sl wr B d (ic .i64 (s.counts lo))
  far : ∀ ad, B = some ad → 0 < (ic .i64 (s.counts lo)).length → ad.block ≠ g ∧ some ad.block ≠ q
  sane : s.Sane (42 + k)
  good : Good lo hi s
  lw : Lw w wr p lo hi
  size : base ≤ wr.heap.size

set_option maxRecDepth 100000 in
set_option maxHeartbeats 40000000 in
theorem plays_law (low span : Int) (o : Bool) (l : List Opn) (A : Option Addr) (c : Nat) (w : World) (h0 : 0 ≤ low) (h1 : low ≤ 4294967295) (h2 : 0 ≤ span) (h3 : span ≤ 4294967295)
    (hx : Opns w A c l) (bl : ByteOps l) :
    Calls Try.prog 5 #[.agg #[.int .u32 low, .int .u32 span, .bool o], .slice A l.length c] w fun e w' => e = .returned (.bool true) ∧ Below w.heap.size w w' := by
  have hcap1 := hx.cap
  have hmax1 := hx.max
  have hbox : (w.alloc (.cells #[.int .u32 low, .int .u32 span, .bool o] 24)).heap[w.heap.size]? = some (.cells #[.int .u32 low, .int .u32 span, .bool o] 24) := heap_alloc_new w _
  have hb0 : Below w.heap.size w (w.alloc (.cells #[.int .u32 low, .int .u32 span, .bool o] 24)) := (Below.refl _ w).alloc (Nat.le_refl _) _
  go_enter Try.func5, Try.ntmps5
  go_wp2_with fail
  refine (awake_any _).mono ?_
  rintro e w1 ⟨rfl, hb1⟩
  have hbox1 := blk_below hbox hb1
  obtain ⟨x0, x1, x2⟩ := three_cells hbox1
  have hb1' : Below w.heap.size w w1 := hb0.trans (hb1.mono (by simp))
  clear hbox hb0 hb1
  go_wp2_with fail
  refine (few_any l A c w1 (hx.below hb1')).mono ?_
  rintro e w1b ⟨b, rfl, hfew, rfl⟩
  cases b with
  | false =>
    clear hfew
    go_wp2_with fail
    refine (awake_any _).mono ?_
    rintro e w2 ⟨rfl, hb2⟩
    go_wp2
    go_ret
    exact ⟨rfl, hb1'.trans (hb2.mono hb1'.size)⟩
  | true =>
  obtain ⟨hl120, hl40⟩ := hfew rfl
  clear hfew
  have HL40 := Lib.hid hl40
  clear hl40
  go_wp2_with fail
  refine (scope_any low span o w1 h0 h1 h2 h3).mono ?_
  rintro e w2 ⟨lo, hi, rfl, hsc, hb2⟩
  have lw : Lw w (w2.alloc (.cells #[.int .i64 lo, .int .i64 hi] 28)) w2.heap.size lo hi :=
    ⟨heap_alloc_new w2 _, (hb1'.trans (hb2.mono hb1'.size)).alloc (by have := hb1'.size; have := hb2.size; omega) _, by have := hb1'.size; have := hb2.size; omega⟩
  clear x0 x1 x2 hbox1 hb1' hb2
  obtain ⟨p, hp⟩ : ∃ p, p = w2.heap.size := ⟨_, rfl⟩
  rw [← hp] at lw
  go_wp2_with fail
  refine (new_any lo hi _).mono ?_
  rintro e w3 ⟨g, rfl, st, hg, hb3⟩
  rw [← hp]
  obtain ⟨base, hbase⟩ : ∃ base, base = (w2.alloc (.cells #[.int .i64 lo, .int .i64 hi] 28)).heap.size := ⟨_, rfl⟩
  have lw3 := lw.next hb3
  have hpb : p < base := by have := lw.plt; omega
  have hbs : base ≤ w3.heap.size := by have := hb3.size; omega
  rw [← hbase] at st
  have hgb : base ≤ g := by rw [hbase]; simp at hg ⊢; omega
  clear hp hbase lw hb3 hg
  go_wp2
  go_loopw [7, 8] (fun wv i wr => ∃ (k : Nat) (s : St) (q : Option Nat) (B : Option Addr) (d : Nat), k ≤ l.length ∧ i = .int .i64 k ∧ wv = .slice B (s.counts lo).length d ∧ Pl w wr g base p lo hi s q B d k) (fun _ i _ => l.length - (intOf i).toNat)
  case atStart =>
    obtain ⟨q, hq, _⟩ := SetQ.of st
    exact ⟨0, St.new, q, none, 0, by omega, rfl, by simp [St.counts, St.new], ⟨hq, by simpa [St.counts, St.new, ic] using Sl.none_ _, fun _ e => (by cases e), St.sane_new _ (by omega), good_new lo hi, lw3, hbs⟩⟩
  case round =>
    clear st lw3 hbs
    obtain ⟨k, s, q, Bw, dw, hk, rfl, rfl, pl⟩ := hrel
    obtain ⟨c0, c1⟩ := pl.lw.cells
    by_cases hlt : k < l.length
    · obtain ⟨ad, B, d, rfl, e1, e2, e3⟩ := (hx.below pl.lw.ext).at_ k hlt
      have hz := bl _ (opAt_mem hlt)
      have hz40 := HL40.out _ (opAt_mem hlt)
      generalize hop : opAt l k = op at e1 e2 e3 hz hz40
      obtain ⟨kd, os⟩ := op
      dsimp only at e1 e2 e3 hz hz40
      have hD : doSt lo hi s (kd, os) = if kd % 3 = 0 then s.begin lo hi else if kd % 3 = 1 then s.next lo hi else s.merge (smallSt lo hi os) := rfl
      have HD := Lib.hid hD
      have HOP := Lib.hid hop
      have HZ := Lib.hid hz
      have hz0 := hz.1.1
      have hz1 := hz.1.2
      clear hD hop hz
      -- behind the call: the set is made, the list is not yet
      by_cases h30 : kd % 3 = 0
      · have f0 : (kd % 3 == 0) = true := by simpa using h30
        go_wp2_with fail
        refine (beginq_any g base lo hi _ s wr hsc q pl.set pl.sane (by omega) (by omega) hgb pl.size).mono ?_
        rintro e w6 ⟨q', rfl, set6, hq', hb6, hf6⟩
        have lw6 := pl.lw.nextB hb6 hpb
        have want6 := sl_frq pl.want hf6 pl.far
        have far6 : ∀ ad, Bw = some ad → 0 < (ic .i64 (s.counts lo)).length → ad.block ≠ g ∧ some ad.block ≠ q' := fun ad e hx0 => by
          have h1 := pl.far ad e hx0
          refine ⟨h1.1, ?_⟩
          rcases hq' with rfl | ⟨k', rfl, hk'⟩
          · exact h1.2
          · intro e9
            have := pl.want.lt hx0 ad e
            cases e9
            omega
        have ss6 := pl.sane.begin (lo := lo) (hi := hi) (by omega)
        have gd6 := (begin_facts hsc pl.good).1
        have sz6 : base ≤ w6.heap.size := by have := hb6.size; have := pl.size; omega
        have hs' : (s.begin lo hi) = doSt lo hi s (kd, os) := by rw [HD.out, if_pos h30]
        generalize s.begin lo hi = s' at *
        have HS := Lib.hid hs'
        clear hs' hb6 hf6 hq' c0 c1 e1 e2 e3
        have hlt' := hlt
        obtain ⟨ad', B', d', he, e1, e2, e3⟩ := (hx.below lw6.ext).at_ k hlt
        cases he
        rw [HOP.out] at e1 e2 e3
        dsimp only at e1 e2 e3
        have lwD := lw6.drew
        have hbD : Below w6.heap.size w6 w6.drew := below_drew (Below.refl _ _)
        have hDo := fun W (h : Below w6.heap.size w6 W) => rdo_any lo hi (42 + k) s (kd, os) Bw B' dw d' W hsc pl.sane (by omega) pl.good (want6.below h) (e3.below h) ⟨hz0, hz1⟩ hz40 HZ.out.2
        dsimp only at hDo
        have hbn : ∀ w', Below w6.drew.heap.size w6.drew w' → Below w6.heap.size w6 w' := fun w' h => ⟨h.os, h.tape, h.output, h.size, h.block⟩
        obtain ⟨c0, c1⟩ := lw6.cells
        have k0 : (0 : Int) ≤ (k : Int) := by omega
        have k1 : (k : Int) < (l.length : Int) := by omega
        have wl := pl.want
        have far0 := pl.far
        rw [← HS.out] at hDo
        generalize hL : s.counts lo = L at *
        generalize hL2 : s'.counts lo = L2 at *
        have HL := Lib.hid hL
        have HL2 := Lib.hid hL2
        have keepD : ∀ W, Below w6.heap.size w6 W → W.cell? ⟨p, 0, none⟩ = some (.int .i64 lo) ∧ W.cell? ⟨p, 1, none⟩ = some (.int .i64 hi) ∧ W.cell? (ad.add (k * 2)) = some (.int .u8 kd) ∧ W.cell? ⟨(ad.add (k * 2)).block, (ad.add (k * 2)).off + 1, none⟩ = some (.slice B' os.length d') := fun W h =>
          ⟨(lw6.next h).cells.1, (lw6.next h).cells.2, (h.cell (World.block_lt_of_cell? w6 _ e1)).trans e1, (h.cell (World.block_lt_of_cell? w6 _ e2)).trans e2⟩
        clear hL hL2 pl e3
        go_wp2
        go_region_held3 (fun w' => w'.cell? ⟨p, 0, none⟩ = some (.int .i64 lo) ∧ w'.cell? ⟨p, 1, none⟩ = some (.int .i64 hi) ∧ w'.cell? (ad.add (k * 2)) = some (.int .u8 kd) ∧ w'.cell? ⟨(ad.add (k * 2)).block, (ad.add (k * 2)).off + 1, none⟩ = some (.slice B' os.length d'))
          (first
            | exact keepD _ hb7'
            | go_keep)
          ((go_at_call 22; refine (hDo _ hbD).mono ?_; rintro e w7 ⟨A7, c7, rfl, hs7, hb7, hf7⟩; have hb7' := hbn _ hb7; have lw7 := lw6.next hb7'))
        all_goals
          have set7 := set6.below hb7'
          have far7 : ∀ ad, A7 = some ad → 0 < (ic .i64 L2).length → ad.block ≠ g ∧ some ad.block ≠ q' := fun ad e hx0 => by
            rcases hf7 with hf | ⟨e7, e8⟩
            · have h1 := hf ad e
              have h2 := set6.is.lt
              have h3 : w6.heap.size ≤ ad.block := h1
              refine ⟨by omega, fun e9 => ?_⟩
              have := (set6.lt _ e9.symm).2
              omega
            · rw [e7] at e
              rw [e8] at hx0
              exact far6 ad e hx0
          have sz7 : base ≤ w7.heap.size := by have := hb7'.size; omega
          clear keepD hb7 hb7' hf7 c0 c1 e1 e2 want6 far6 set6 hDo hbn hbD lwD lw6 far0 wl
          obtain ⟨c0, c1⟩ := lw7.cells
          have hl2 : L2.length ≤ 2000 := by have := counts_length (lo := lo) ss6 (by omega); rw [HL2.out] at this; omega
          go_wp2
          go_loopw [10, 11] (fun dn i wr => ∃ (j n : Nat), j ≤ L2.length ∧ i = .int .i64 j ∧ dn = .bool ((L2.take j).any (fun x => decide (lo ≤ x))) ∧ wr = w7.drewN n) (fun _ i _ => L2.length - (intOf i).toNat)
          case atStart => exact ⟨0, 0, by omega, rfl, by simp, rfl⟩
          case round =>
            obtain ⟨j, n, hj, rfl, rfl, rfl⟩ := hrel
            by_cases hjl : j < L2.length
            · obtain ⟨wd, rfl, hwc⟩ := hs7.num hjl
              have hany : (L2.take (j + 1)).any (fun x => decide (lo ≤ x)) = ((L2.take j).any (fun x => decide (lo ≤ x)) || decide (lo ≤ L2.getD j 0)) := by
                rw [take_snocI L2 j hjl, List.any_append]
                simp
              generalize L2.getD j 0 = x at hwc hany
              have j0 : (0 : Int) ≤ (j : Int) := by omega
              have j1 : (j : Int) < (L2.length : Int) := by omega
              have HANY := Lib.hid hany
              clear hany
              generalize (L2.take j).any (fun x => decide (lo ≤ x)) = dn at *
              cases dn with
              | true =>
                go_wp2
                go_quiet (fail)
                go_wp2
                go_roundw
                case rel => exact ⟨j + 1, n + nq, by omega, by go_num, by rw [HANY.out]; rfl, rfl⟩
                case measure => simp [intOf]; omega
              | false =>
                go_wp2
                go_quiet (fail)
                go_wp2
                go_roundw
                case rel => exact ⟨j + 1, n + nq, by omega, by go_num, by rw [HANY.out]; rfl, rfl⟩
                case measure => simp [intOf]; omega
            · obtain rfl : j = L2.length := by omega
              rw [List.take_length]
              have hdn : L2.any (fun x => decide (lo ≤ x)) = s'.done lo := by rw [← HL2.out]; exact done_any_of gd6
              rw [hdn]
              have lw8 := lw7.drewN n
              have set8 := set7.drewN n
              have hs8 : Sl (w7.drewN n) A7 c7 (ic .i64 L2) := hs7.keep fun _ _ h _ => h
              have sz8 : base ≤ (w7.drewN n).heap.size := sz7
              generalize w7.drewN n = w8 at *
              have hln : L2.length = s'.len := by rw [← HL2.out]; exact counts_len lo s'
              have hmx := len_max hsc gd6
              have hb8 := ss6.length
              have hb9 := len_ge s'
              clear hdn c0 c1 lw7 set7 hs7 sz7
              obtain ⟨c0, c1⟩ := lw8.cells
              have lwE := lw8.drew
              have setE : SetIs w8.drew g base lo hi s' := by
                obtain ⟨v, x1, x2, _⟩ := set8
                exact ⟨v, x1, x2.drew⟩
              have setD : SetQ w8.drew g base lo hi s' q' := by
                obtain ⟨v, x1, x2, x3⟩ := set8
                exact ⟨v, x1, x2.drew, x3⟩
              have hsE : Sl w8.drew A7 c7 (ic .i64 L2) := hs8.drew
              have qlen := len_any g base lo hi _ s' _ setE ss6 (by omega)
              have qdone := done_any g base lo hi _ s' _ hsc setE ss6 (by omega)
              have hbE : Below w8.heap.size w8 w8.drew := below_drew (Below.refl _ _)
              have nextS : ∀ {a b : World}, SetIs a g base lo hi s' → Below a.heap.size a b → SetIs b g base lo hi s' := fun h hb => h.below hb
              have cnt : ∀ W, SetIs W g base lo hi s' → Calls Try.prog 13 #[.pointer (some ⟨g, 0, none⟩)] W (RetI L2 W) := fun W h => by
                have := counts_any g base lo hi _ s' W hsc h ss6 (by omega)
                rwa [HL2.out] at this
              have sam : ∀ W A1 c1, Sl W A1 c1 (ic .i64 L2) → Sl W A7 c7 (ic .i64 L2) → Calls Try.prog 20 #[.slice A1 L2.length c1, .slice A7 L2.length c7] W fun e w' => e = .returned (.bool true) ∧ Below W.heap.size W w' := fun W A1 c1 h1 h2 => by
                have := same_any L2 L2 A1 A7 c1 c7 W h1 h2 (by omega) (by omega)
                rwa [show decide (L2 = L2) = true by simp] at this
              have len2 : ∀ W, SetIs W g base lo hi s' → Calls Try.prog 15 #[.pointer (some ⟨g, 0, none⟩)] W fun e w' => e = .returned (.int .i64 (s'.len : Int)) ∧ W = w' := fun W h => len_any g base lo hi _ s' W h ss6 (by omega)
              have nb1 : ((s'.len : Int) != (L2.length : Int)) = false := by rw [hln]; simp
              have nb2 : (s'.done lo != s'.done lo) = false := by simp
              have HLN := Lib.hid hln
              clear hln
              have szD : base ≤ w8.drew.heap.size := sz8
              have nb3 : decide ((if lo < hi then hi else lo) < (s'.len : Int)) = false := by
                simp only [decide_eq_false_iff_not]
                split <;> omega
              go_wp2
              go_region_law (first
                | (go_simp; go_at_call 15; refine (len2 _ stH).mono ?_; rintro e w13 ⟨rfl, rfl⟩)
                | (go_simp; go_at_call 20; refine (sam _ _ _ hslG hsG).mono ?_; rintro e wH ⟨rfl, hbH⟩; have stH := nextS stG hbH; have lwH := lwG.next hbH; have hsH := hsG.below hbH; have setH := setG.below hbH; obtain ⟨cH0, cH1⟩ := lwH.cells; have szH := hbH.size)
                | (go_simp; go_at_call 13; refine (cnt _ stF).mono ?_; rintro e wG ⟨AG, cG, rfl, hslG, hbG, _⟩; have stG := nextS stF hbG; have lwG := lwF.next hbG; have hsG := hsF.below hbG; have setG := setF.below hbG; obtain ⟨cG0, cG1⟩ := lwG.cells; have szG := hbG.size)
                | (go_simp; go_at_call 14; refine qdone.mono ?_; rintro e wF ⟨rfl, hbF⟩; have stF := nextS setE hbF; have lwF := lwE.next hbF; have hsF := hsE.below hbF; have setF := setD.below hbF; obtain ⟨cF0, cF1⟩ := lwF.cells; have szF := hbF.size)
                | (go_simp; go_at_call 15; refine qlen.mono ?_; rintro e w12 ⟨rfl, rfl⟩))
              all_goals
                go_wp2
                refine ⟨⟨k + 1, s', q', A7, c7, by omega, by go_num, by rw [HL2.out], ⟨setH, by rw [HL2.out]; exact hsH, by rw [HL2.out]; exact far7, by rw [show (42 + ((k + 1 : Nat) : Int)) = 42 + k + 1 by omega]; exact ss6, gd6, lwH, by omega⟩⟩, by simp [intOf]; omega⟩

      · have f0 : (kd % 3 == 0) = false := by simpa using h30
        by_cases h31 : kd % 3 = 1
        · have f1 : (kd % 3 == 1) = true := by simpa using h31
          go_wp2_with fail
          refine (nextq_any g base lo hi _ s wr hsc q pl.set pl.sane (by omega)).mono ?_
          rintro e w6 ⟨rfl, set6, hf6⟩
          have lw6 := pl.lw.fr hf6 (by omega)
          have want6 := sl_frq pl.want (FrQ.of_fr q hf6) pl.far
          obtain ⟨q', hqq⟩ : ∃ q', q' = q := ⟨_, rfl⟩
          have far6 := pl.far
          rw [← hqq] at set6 far6
          have ss6 := pl.sane.next (lo := lo) (hi := hi)
          have gd6 := (next_facts hsc pl.good).1
          have sz6 : base ≤ w6.heap.size := by have := hf6.size; have := pl.size; omega
          have hs' : (s.next lo hi) = doSt lo hi s (kd, os) := by rw [HD.out, if_neg h30, if_pos h31]
          generalize s.next lo hi = s' at *
          have HS := Lib.hid hs'
          clear hs' hf6 hqq c0 c1 e1 e2 e3
          have hlt' := hlt
          obtain ⟨ad', B', d', he, e1, e2, e3⟩ := (hx.below lw6.ext).at_ k hlt
          cases he
          rw [HOP.out] at e1 e2 e3
          dsimp only at e1 e2 e3
          have lwD := lw6.drew
          have hbD : Below w6.heap.size w6 w6.drew := below_drew (Below.refl _ _)
          have hDo := fun W (h : Below w6.heap.size w6 W) => rdo_any lo hi (42 + k) s (kd, os) Bw B' dw d' W hsc pl.sane (by omega) pl.good (want6.below h) (e3.below h) ⟨hz0, hz1⟩ hz40 HZ.out.2
          dsimp only at hDo
          have hbn : ∀ w', Below w6.drew.heap.size w6.drew w' → Below w6.heap.size w6 w' := fun w' h => ⟨h.os, h.tape, h.output, h.size, h.block⟩
          obtain ⟨c0, c1⟩ := lw6.cells
          have k0 : (0 : Int) ≤ (k : Int) := by omega
          have k1 : (k : Int) < (l.length : Int) := by omega
          have wl := pl.want
          have far0 := pl.far
          rw [← HS.out] at hDo
          generalize hL : s.counts lo = L at *
          generalize hL2 : s'.counts lo = L2 at *
          have HL := Lib.hid hL
          have HL2 := Lib.hid hL2
          have keepD : ∀ W, Below w6.heap.size w6 W → W.cell? ⟨p, 0, none⟩ = some (.int .i64 lo) ∧ W.cell? ⟨p, 1, none⟩ = some (.int .i64 hi) ∧ W.cell? (ad.add (k * 2)) = some (.int .u8 kd) ∧ W.cell? ⟨(ad.add (k * 2)).block, (ad.add (k * 2)).off + 1, none⟩ = some (.slice B' os.length d') := fun W h =>
            ⟨(lw6.next h).cells.1, (lw6.next h).cells.2, (h.cell (World.block_lt_of_cell? w6 _ e1)).trans e1, (h.cell (World.block_lt_of_cell? w6 _ e2)).trans e2⟩
          clear hL hL2 pl e3
          go_wp2
          go_region_held3 (fun w' => w'.cell? ⟨p, 0, none⟩ = some (.int .i64 lo) ∧ w'.cell? ⟨p, 1, none⟩ = some (.int .i64 hi) ∧ w'.cell? (ad.add (k * 2)) = some (.int .u8 kd) ∧ w'.cell? ⟨(ad.add (k * 2)).block, (ad.add (k * 2)).off + 1, none⟩ = some (.slice B' os.length d'))
            (first
              | exact keepD _ hb7'
              | go_keep)
            ((go_at_call 22; refine (hDo _ hbD).mono ?_; rintro e w7 ⟨A7, c7, rfl, hs7, hb7, hf7⟩; have hb7' := hbn _ hb7; have lw7 := lw6.next hb7'))
          all_goals
            have set7 := set6.below hb7'
            have far7 : ∀ ad, A7 = some ad → 0 < (ic .i64 L2).length → ad.block ≠ g ∧ some ad.block ≠ q' := fun ad e hx0 => by
              rcases hf7 with hf | ⟨e7, e8⟩
              · have h1 := hf ad e
                have h2 := set6.is.lt
                have h3 : w6.heap.size ≤ ad.block := h1
                refine ⟨by omega, fun e9 => ?_⟩
                have := (set6.lt _ e9.symm).2
                omega
              · rw [e7] at e
                rw [e8] at hx0
                exact far6 ad e hx0
            have sz7 : base ≤ w7.heap.size := by have := hb7'.size; omega
            clear keepD hb7 hb7' hf7 c0 c1 e1 e2 want6 far6 set6 hDo hbn hbD lwD lw6 far0 wl
            obtain ⟨c0, c1⟩ := lw7.cells
            have hl2 : L2.length ≤ 2000 := by have := counts_length (lo := lo) ss6 (by omega); rw [HL2.out] at this; omega
            go_wp2
            go_loopw [10, 11] (fun dn i wr => ∃ (j n : Nat), j ≤ L2.length ∧ i = .int .i64 j ∧ dn = .bool ((L2.take j).any (fun x => decide (lo ≤ x))) ∧ wr = w7.drewN n) (fun _ i _ => L2.length - (intOf i).toNat)
            case atStart => exact ⟨0, 0, by omega, rfl, by simp, rfl⟩
            case round =>
              obtain ⟨j, n, hj, rfl, rfl, rfl⟩ := hrel
              by_cases hjl : j < L2.length
              · obtain ⟨wd, rfl, hwc⟩ := hs7.num hjl
                have hany : (L2.take (j + 1)).any (fun x => decide (lo ≤ x)) = ((L2.take j).any (fun x => decide (lo ≤ x)) || decide (lo ≤ L2.getD j 0)) := by
                  rw [take_snocI L2 j hjl, List.any_append]
                  simp
                generalize L2.getD j 0 = x at hwc hany
                have j0 : (0 : Int) ≤ (j : Int) := by omega
                have j1 : (j : Int) < (L2.length : Int) := by omega
                have HANY := Lib.hid hany
                clear hany
                generalize (L2.take j).any (fun x => decide (lo ≤ x)) = dn at *
                cases dn with
                | true =>
                  go_wp2
                  go_quiet (fail)
                  go_wp2
                  go_roundw
                  case rel => exact ⟨j + 1, n + nq, by omega, by go_num, by rw [HANY.out]; rfl, rfl⟩
                  case measure => simp [intOf]; omega
                | false =>
                  go_wp2
                  go_quiet (fail)
                  go_wp2
                  go_roundw
                  case rel => exact ⟨j + 1, n + nq, by omega, by go_num, by rw [HANY.out]; rfl, rfl⟩
                  case measure => simp [intOf]; omega
              · obtain rfl : j = L2.length := by omega
                rw [List.take_length]
                have hdn : L2.any (fun x => decide (lo ≤ x)) = s'.done lo := by rw [← HL2.out]; exact done_any_of gd6
                rw [hdn]
                have lw8 := lw7.drewN n
                have set8 := set7.drewN n
                have hs8 : Sl (w7.drewN n) A7 c7 (ic .i64 L2) := hs7.keep fun _ _ h _ => h
                have sz8 : base ≤ (w7.drewN n).heap.size := sz7
                generalize w7.drewN n = w8 at *
                have hln : L2.length = s'.len := by rw [← HL2.out]; exact counts_len lo s'
                have hmx := len_max hsc gd6
                have hb8 := ss6.length
                have hb9 := len_ge s'
                clear hdn c0 c1 lw7 set7 hs7 sz7
                obtain ⟨c0, c1⟩ := lw8.cells
                have lwE := lw8.drew
                have setE : SetIs w8.drew g base lo hi s' := by
                  obtain ⟨v, x1, x2, _⟩ := set8
                  exact ⟨v, x1, x2.drew⟩
                have setD : SetQ w8.drew g base lo hi s' q' := by
                  obtain ⟨v, x1, x2, x3⟩ := set8
                  exact ⟨v, x1, x2.drew, x3⟩
                have hsE : Sl w8.drew A7 c7 (ic .i64 L2) := hs8.drew
                have qlen := len_any g base lo hi _ s' _ setE ss6 (by omega)
                have qdone := done_any g base lo hi _ s' _ hsc setE ss6 (by omega)
                have hbE : Below w8.heap.size w8 w8.drew := below_drew (Below.refl _ _)
                have nextS : ∀ {a b : World}, SetIs a g base lo hi s' → Below a.heap.size a b → SetIs b g base lo hi s' := fun h hb => h.below hb
                have cnt : ∀ W, SetIs W g base lo hi s' → Calls Try.prog 13 #[.pointer (some ⟨g, 0, none⟩)] W (RetI L2 W) := fun W h => by
                  have := counts_any g base lo hi _ s' W hsc h ss6 (by omega)
                  rwa [HL2.out] at this
                have sam : ∀ W A1 c1, Sl W A1 c1 (ic .i64 L2) → Sl W A7 c7 (ic .i64 L2) → Calls Try.prog 20 #[.slice A1 L2.length c1, .slice A7 L2.length c7] W fun e w' => e = .returned (.bool true) ∧ Below W.heap.size W w' := fun W A1 c1 h1 h2 => by
                  have := same_any L2 L2 A1 A7 c1 c7 W h1 h2 (by omega) (by omega)
                  rwa [show decide (L2 = L2) = true by simp] at this
                have len2 : ∀ W, SetIs W g base lo hi s' → Calls Try.prog 15 #[.pointer (some ⟨g, 0, none⟩)] W fun e w' => e = .returned (.int .i64 (s'.len : Int)) ∧ W = w' := fun W h => len_any g base lo hi _ s' W h ss6 (by omega)
                have nb1 : ((s'.len : Int) != (L2.length : Int)) = false := by rw [hln]; simp
                have nb2 : (s'.done lo != s'.done lo) = false := by simp
                have HLN := Lib.hid hln
                clear hln
                have szD : base ≤ w8.drew.heap.size := sz8
                have nb3 : decide ((if lo < hi then hi else lo) < (s'.len : Int)) = false := by
                  simp only [decide_eq_false_iff_not]
                  split <;> omega
                go_wp2
                go_region_law (first
                  | (go_simp; go_at_call 15; refine (len2 _ stH).mono ?_; rintro e w13 ⟨rfl, rfl⟩)
                  | (go_simp; go_at_call 20; refine (sam _ _ _ hslG hsG).mono ?_; rintro e wH ⟨rfl, hbH⟩; have stH := nextS stG hbH; have lwH := lwG.next hbH; have hsH := hsG.below hbH; have setH := setG.below hbH; obtain ⟨cH0, cH1⟩ := lwH.cells; have szH := hbH.size)
                  | (go_simp; go_at_call 13; refine (cnt _ stF).mono ?_; rintro e wG ⟨AG, cG, rfl, hslG, hbG, _⟩; have stG := nextS stF hbG; have lwG := lwF.next hbG; have hsG := hsF.below hbG; have setG := setF.below hbG; obtain ⟨cG0, cG1⟩ := lwG.cells; have szG := hbG.size)
                  | (go_simp; go_at_call 14; refine qdone.mono ?_; rintro e wF ⟨rfl, hbF⟩; have stF := nextS setE hbF; have lwF := lwE.next hbF; have hsF := hsE.below hbF; have setF := setD.below hbF; obtain ⟨cF0, cF1⟩ := lwF.cells; have szF := hbF.size)
                  | (go_simp; go_at_call 15; refine qlen.mono ?_; rintro e w12 ⟨rfl, rfl⟩))
                all_goals
                  go_wp2
                  refine ⟨⟨k + 1, s', q', A7, c7, by omega, by go_num, by rw [HL2.out], ⟨setH, by rw [HL2.out]; exact hsH, by rw [HL2.out]; exact far7, by rw [show (42 + ((k + 1 : Nat) : Int)) = 42 + k + 1 by omega]; exact ss6, gd6, lwH, by omega⟩⟩, by simp [intOf]; omega⟩

        · have f1 : (kd % 3 == 1) = false := by simpa using h31
          have hS := fun W (h : Below wr.heap.size wr W) => small_any lo hi os B d W hsc (e3.below h) (by omega) HZ.out.2
          have so := smallSt_sane lo hi os
          have sO : (smallSt lo hi os).Sane (42 + k) := so.mono (by omega)
          clear so
          have hbD : Below wr.heap.size wr wr.drew := below_drew (Below.refl _ _)
          have hbn : ∀ w', Below wr.drew.heap.size wr.drew w' → Below wr.heap.size wr w' := fun w' h => ⟨h.os, h.tape, h.output, h.size, h.block⟩
          have keepM : ∀ W, Below wr.heap.size wr W → W.cell? ⟨p, 0, none⟩ = some (.int .i64 lo) ∧ W.cell? ⟨p, 1, none⟩ = some (.int .i64 hi) ∧ W.cell? ⟨(ad.add (k * 2)).block, (ad.add (k * 2)).off + 1, none⟩ = some (.slice B os.length d) := fun W h =>
            ⟨(pl.lw.next h).cells.1, (pl.lw.next h).cells.2, (h.cell (World.block_lt_of_cell? wr _ e2)).trans e2⟩
          go_wp2
          go_region_held3 (fun w' => w'.cell? ⟨p, 0, none⟩ = some (.int .i64 lo) ∧ w'.cell? ⟨p, 1, none⟩ = some (.int .i64 hi) ∧ w'.cell? ⟨(ad.add (k * 2)).block, (ad.add (k * 2)).off + 1, none⟩ = some (.slice B os.length d))
            (first
              | exact keepM _ hb4'
              | go_keep)
            ((go_at_call 18; refine (hS _ hbD).mono ?_; rintro e w4 ⟨g2, rfl, st2, hg2, hb4⟩; have hb4' := hbn _ hb4; have lw4 := pl.lw.next hb4'))
          all_goals
            obtain ⟨b2, k2⟩ : ∃ b, SetIs w4 g2 b lo hi (smallSt lo hi os) := ⟨_, st2⟩
            have set4 := pl.set.below hb4'
            have want4 := pl.want.below hb4'
            have n12 : g ≠ g2 := by
              have h1 := pl.set.is.lt
              have h2 : wr.heap.size ≤ g2 := hg2
              omega
            have m4 := hb4'.size
            have mp := pl.size
            have e2_4 := (hb4'.cell (World.block_lt_of_cell? wr _ e2)).trans e2
            have e3_4 := e3.below hb4'
            clear keepM hb4 hb4' st2 hg2 hS hbD hbn c0 c1 e1 e2 e3
            obtain ⟨c0, c1⟩ := lw4.cells
            go_wp2_with fail
            refine (merge_any g base g2 b2 lo hi _ s _ w4 set4.is k2 n12 pl.sane sO (by omega) (by omega)).mono ?_
            rintro e w5 ⟨rfl, k3, hf5⟩
            have want5 := sl_frq want4 (FrQ.of_fr q hf5) pl.far
            have k2' := k2.frS set4.is hf5 n12.symm
            obtain ⟨q', set5', hql⟩ := SetQ.of k3
            have set5 : SetQ w5 g base lo hi (s.merge (smallSt lo hi os)) q' := by
              obtain ⟨v, x1, x2, x3⟩ := set5'
              exact ⟨v, x1, x2.mono fun k hk => by have := (x2.lt k hk).1; omega, x3⟩
            have far6 : ∀ ad, Bw = some ad → 0 < (ic .i64 (s.counts lo)).length → ad.block ≠ g ∧ some ad.block ≠ q' := fun ad e hx0 => by
              refine ⟨(pl.far ad e hx0).1, fun e9 => ?_⟩
              have h1 := (hql _ e9.symm).1
              have h2 := want4.lt hx0 ad e
              omega
            have lw5 := lw4.fr hf5 (by omega)
            have ss6 := pl.sane.merge sO (by omega)
            have gd6 := (merge_facts pl.good (small_good hsc os)).1
            have m5 := hf5.size
            have e2_5 : w5.cell? ⟨(ad.add (k * 2)).block, (ad.add (k * 2)).off + 1, none⟩ = some (.slice B os.length d) ∧ Sl w5 B d (ic .u8 os) := by
              obtain ⟨ad', B', d', he, y1, y2, y3⟩ := (hx.below lw5.ext).at_ k hlt
              cases he
              rw [HOP.out] at y2 y3
              dsimp only at y2 y3
              have y4 : w4.cell? ⟨(ad.add (k * 2)).block, (ad.add (k * 2)).off + 1, none⟩ = some (.slice B' os.length d') := by
                obtain ⟨ad', B2, d2, he, z1, z2, z3⟩ := hx.at_ k hlt
                cases he
                rw [HOP.out] at z2
                dsimp only at z2
                have hlt2 := World.block_lt_of_cell? w _ z2
                have a1 := (lw5.ext.cell hlt2).trans z2
                rw [y2] at a1
                have a2 := (lw4.ext.cell hlt2).trans z2
                rw [a2]
                exact a1.symm
              rw [e2_4] at y4
              have y5 := Option.some.inj y4
              injection y5 with y6 y7 y8
              subst y6 y8
              exact ⟨y2, y3⟩
            obtain ⟨e2_5, e3_5⟩ := e2_5
            clear k2 k3 hf5 set4 want4 lw4 c0 c1 e2_4 e3_4 set5' hql
            obtain ⟨c0, c1⟩ := lw5.cells
            have hbD5 : Below w5.heap.size w5 w5.drew := below_drew (Below.refl _ _)
            have htl := counts_length (lo := lo) sO (by omega)
            have cD := fun W (h : Below w5.heap.size w5 W) => counts_any g2 b2 lo hi _ (smallSt lo hi os) W hsc (k2'.below h) sO (by omega)
            have cS := fun W (h : Below w5.heap.size w5 W) => rsmall_any lo hi os B d W hsc (e3_5.below h) (by omega) HZ.out.2
            have keepS : ∀ W, Below w5.heap.size w5 W → W.cell? ⟨p, 0, none⟩ = some (.int .i64 lo) ∧ W.cell? ⟨p, 1, none⟩ = some (.int .i64 hi) ∧ W.cell? ⟨(ad.add (k * 2)).block, (ad.add (k * 2)).off + 1, none⟩ = some (.slice B os.length d) := fun W h =>
              ⟨(lw5.next h).cells.1, (lw5.next h).cells.2, (h.cell (World.block_lt_of_cell? w5 _ e2_5)).trans e2_5⟩
            have joinB : ∀ {a b : World}, Below w5.heap.size w5 a → Below a.heap.size a b → Below w5.heap.size w5 b := fun h k => h.trans (k.mono h.size)
            generalize hT : (smallSt lo hi os).counts lo = Tl at *
            have cE : ∀ W A1 c1 A2 c2, Sl W A1 c1 (ic .i64 Tl) → Sl W A2 c2 (ic .i64 Tl) → Calls Try.prog 20 #[.slice A1 Tl.length c1, .slice A2 Tl.length c2] W fun e w' => e = .returned (.bool true) ∧ Below W.heap.size W w' := fun W A1 c1 A2 c2 h1 h2 => by
              have := same_any Tl Tl A1 A2 c1 c2 W h1 h2 (by omega) (by omega)
              rwa [show decide (Tl = Tl) = true by simp] at this
            have HT := Lib.hid hT
            clear hT
            have k0 : (0 : Int) ≤ (k : Int) := by omega
            have k1 : (k : Int) < (l.length : Int) := by omega
            have z1 := World.new_ne w5 _ c0
            go_wp2
            go_region_held3 (fun w' => w'.cell? ⟨p, 0, none⟩ = some (.int .i64 lo) ∧ w'.cell? ⟨p, 1, none⟩ = some (.int .i64 hi) ∧ w'.cell? ⟨(ad.add (k * 2)).block, (ad.add (k * 2)).off + 1, none⟩ = some (.slice B os.length d))
              (first
                | exact keepS _ ext11
                | exact keepS _ ext10
                | exact keepS _ ext9
                | go_keep)
              ((first
                | (go_at_call 20; refine (cE _ _ _ _ _ hsl9' hsl10).mono ?_; rintro e w11 ⟨rfl, hb11⟩; have ext11 := joinB ext10 hb11)
                | (go_at_call 21; refine (cS _ ext9).mono ?_; rintro e w10 ⟨A10, c10, rfl, hsl10, hb10, _⟩; have ext10 := joinB ext9 hb10; have hsl9' := hsl9.below hb10)
                | (go_at_call 13; refine (cD _ hbD5).mono ?_; rintro e w9 ⟨A9, c9, rfl, hsl9, hb9, _⟩; have ext9 := joinB hbD5 hb9)))
            all_goals
              have set6 := set5.below ext11
              have want6 := want5.below ext11
              have lw6 := lw5.next ext11
              have sz6 : base ≤ w11.heap.size := by have := ext11.size; omega
              have hs' : s.merge (smallSt lo hi os) = doSt lo hi s (kd, os) := by rw [HD.out, if_neg h30, if_neg h31]
              generalize s.merge (smallSt lo hi os) = s' at *
              have HS := Lib.hid hs'
              clear hs' ext11 ext10 ext9 hsl9 hsl9' hsl10 hb9 hb10 hb11 set5 want5 lw5 cD cS cE keepS k2' hbD5 c0 c1 e2_5 e3_5 joinB z1 k0 k1
              obtain ⟨w6, hw6⟩ : ∃ w6, w6 = w11 := ⟨_, rfl⟩
              rw [← hw6] at set6 want6 lw6 sz6 ⊢
              clear hw6
            have hlt' := hlt
            obtain ⟨ad', B', d', he, e1, e2, e3⟩ := (hx.below lw6.ext).at_ k hlt
            cases he
            rw [HOP.out] at e1 e2 e3
            dsimp only at e1 e2 e3
            have lwD := lw6.drew
            have hbD : Below w6.heap.size w6 w6.drew := below_drew (Below.refl _ _)
            have hDo := fun W (h : Below w6.heap.size w6 W) => rdo_any lo hi (42 + k) s (kd, os) Bw B' dw d' W hsc pl.sane (by omega) pl.good (want6.below h) (e3.below h) ⟨hz0, hz1⟩ hz40 HZ.out.2
            dsimp only at hDo
            have hbn : ∀ w', Below w6.drew.heap.size w6.drew w' → Below w6.heap.size w6 w' := fun w' h => ⟨h.os, h.tape, h.output, h.size, h.block⟩
            obtain ⟨c0, c1⟩ := lw6.cells
            have k0 : (0 : Int) ≤ (k : Int) := by omega
            have k1 : (k : Int) < (l.length : Int) := by omega
            have wl := pl.want
            have far0 := pl.far
            rw [← HS.out] at hDo
            generalize hL : s.counts lo = L at *
            generalize hL2 : s'.counts lo = L2 at *
            have HL := Lib.hid hL
            have HL2 := Lib.hid hL2
            have keepD : ∀ W, Below w6.heap.size w6 W → W.cell? ⟨p, 0, none⟩ = some (.int .i64 lo) ∧ W.cell? ⟨p, 1, none⟩ = some (.int .i64 hi) ∧ W.cell? (ad.add (k * 2)) = some (.int .u8 kd) ∧ W.cell? ⟨(ad.add (k * 2)).block, (ad.add (k * 2)).off + 1, none⟩ = some (.slice B' os.length d') := fun W h =>
              ⟨(lw6.next h).cells.1, (lw6.next h).cells.2, (h.cell (World.block_lt_of_cell? w6 _ e1)).trans e1, (h.cell (World.block_lt_of_cell? w6 _ e2)).trans e2⟩
            clear hL hL2 pl e3
            go_wp2
            go_region_held3 (fun w' => w'.cell? ⟨p, 0, none⟩ = some (.int .i64 lo) ∧ w'.cell? ⟨p, 1, none⟩ = some (.int .i64 hi) ∧ w'.cell? (ad.add (k * 2)) = some (.int .u8 kd) ∧ w'.cell? ⟨(ad.add (k * 2)).block, (ad.add (k * 2)).off + 1, none⟩ = some (.slice B' os.length d'))
              (first
                | exact keepD _ hb7'
                | go_keep)
              ((go_at_call 22; refine (hDo _ hbD).mono ?_; rintro e w7 ⟨A7, c7, rfl, hs7, hb7, hf7⟩; have hb7' := hbn _ hb7; have lw7 := lw6.next hb7'))
            all_goals
              have set7 := set6.below hb7'
              have far7 : ∀ ad, A7 = some ad → 0 < (ic .i64 L2).length → ad.block ≠ g ∧ some ad.block ≠ q' := fun ad e hx0 => by
                rcases hf7 with hf | ⟨e7, e8⟩
                · have h1 := hf ad e
                  have h2 := set6.is.lt
                  have h3 : w6.heap.size ≤ ad.block := h1
                  refine ⟨by omega, fun e9 => ?_⟩
                  have := (set6.lt _ e9.symm).2
                  omega
                · rw [e7] at e
                  rw [e8] at hx0
                  exact far6 ad e hx0
              have sz7 : base ≤ w7.heap.size := by have := hb7'.size; omega
              clear keepD hb7 hb7' hf7 c0 c1 e1 e2 want6 far6 set6 hDo hbn hbD lwD lw6 far0 wl
              obtain ⟨c0, c1⟩ := lw7.cells
              have hl2 : L2.length ≤ 2000 := by have := counts_length (lo := lo) ss6 (by omega); rw [HL2.out] at this; omega
              go_wp2
              go_loopw [10, 11] (fun dn i wr => ∃ (j n : Nat), j ≤ L2.length ∧ i = .int .i64 j ∧ dn = .bool ((L2.take j).any (fun x => decide (lo ≤ x))) ∧ wr = w7.drewN n) (fun _ i _ => L2.length - (intOf i).toNat)
              case atStart => exact ⟨0, 0, by omega, rfl, by simp, rfl⟩
              case round =>
                obtain ⟨j, n, hj, rfl, rfl, rfl⟩ := hrel
                by_cases hjl : j < L2.length
                · obtain ⟨wd, rfl, hwc⟩ := hs7.num hjl
                  have hany : (L2.take (j + 1)).any (fun x => decide (lo ≤ x)) = ((L2.take j).any (fun x => decide (lo ≤ x)) || decide (lo ≤ L2.getD j 0)) := by
                    rw [take_snocI L2 j hjl, List.any_append]
                    simp
                  generalize L2.getD j 0 = x at hwc hany
                  have j0 : (0 : Int) ≤ (j : Int) := by omega
                  have j1 : (j : Int) < (L2.length : Int) := by omega
                  have HANY := Lib.hid hany
                  clear hany
                  generalize (L2.take j).any (fun x => decide (lo ≤ x)) = dn at *
                  cases dn with
                  | true =>
                    go_wp2
                    go_quiet (fail)
                    go_wp2
                    go_roundw
                    case rel => exact ⟨j + 1, n + nq, by omega, by go_num, by rw [HANY.out]; rfl, rfl⟩
                    case measure => simp [intOf]; omega
                  | false =>
                    go_wp2
                    go_quiet (fail)
                    go_wp2
                    go_roundw
                    case rel => exact ⟨j + 1, n + nq, by omega, by go_num, by rw [HANY.out]; rfl, rfl⟩
                    case measure => simp [intOf]; omega
                · obtain rfl : j = L2.length := by omega
                  rw [List.take_length]
                  have hdn : L2.any (fun x => decide (lo ≤ x)) = s'.done lo := by rw [← HL2.out]; exact done_any_of gd6
                  rw [hdn]
                  have lw8 := lw7.drewN n
                  have set8 := set7.drewN n
                  have hs8 : Sl (w7.drewN n) A7 c7 (ic .i64 L2) := hs7.keep fun _ _ h _ => h
                  have sz8 : base ≤ (w7.drewN n).heap.size := sz7
                  generalize w7.drewN n = w8 at *
                  have hln : L2.length = s'.len := by rw [← HL2.out]; exact counts_len lo s'
                  have hmx := len_max hsc gd6
                  have hb8 := ss6.length
                  have hb9 := len_ge s'
                  clear hdn c0 c1 lw7 set7 hs7 sz7
                  obtain ⟨c0, c1⟩ := lw8.cells
                  have lwE := lw8.drew
                  have setE : SetIs w8.drew g base lo hi s' := by
                    obtain ⟨v, x1, x2, _⟩ := set8
                    exact ⟨v, x1, x2.drew⟩
                  have setD : SetQ w8.drew g base lo hi s' q' := by
                    obtain ⟨v, x1, x2, x3⟩ := set8
                    exact ⟨v, x1, x2.drew, x3⟩
                  have hsE : Sl w8.drew A7 c7 (ic .i64 L2) := hs8.drew
                  have qlen := len_any g base lo hi _ s' _ setE ss6 (by omega)
                  have qdone := done_any g base lo hi _ s' _ hsc setE ss6 (by omega)
                  have hbE : Below w8.heap.size w8 w8.drew := below_drew (Below.refl _ _)
                  have nextS : ∀ {a b : World}, SetIs a g base lo hi s' → Below a.heap.size a b → SetIs b g base lo hi s' := fun h hb => h.below hb
                  have cnt : ∀ W, SetIs W g base lo hi s' → Calls Try.prog 13 #[.pointer (some ⟨g, 0, none⟩)] W (RetI L2 W) := fun W h => by
                    have := counts_any g base lo hi _ s' W hsc h ss6 (by omega)
                    rwa [HL2.out] at this
                  have sam : ∀ W A1 c1, Sl W A1 c1 (ic .i64 L2) → Sl W A7 c7 (ic .i64 L2) → Calls Try.prog 20 #[.slice A1 L2.length c1, .slice A7 L2.length c7] W fun e w' => e = .returned (.bool true) ∧ Below W.heap.size W w' := fun W A1 c1 h1 h2 => by
                    have := same_any L2 L2 A1 A7 c1 c7 W h1 h2 (by omega) (by omega)
                    rwa [show decide (L2 = L2) = true by simp] at this
                  have len2 : ∀ W, SetIs W g base lo hi s' → Calls Try.prog 15 #[.pointer (some ⟨g, 0, none⟩)] W fun e w' => e = .returned (.int .i64 (s'.len : Int)) ∧ W = w' := fun W h => len_any g base lo hi _ s' W h ss6 (by omega)
                  have nb1 : ((s'.len : Int) != (L2.length : Int)) = false := by rw [hln]; simp
                  have nb2 : (s'.done lo != s'.done lo) = false := by simp
                  have HLN := Lib.hid hln
                  clear hln
                  have szD : base ≤ w8.drew.heap.size := sz8
                  have nb3 : decide ((if lo < hi then hi else lo) < (s'.len : Int)) = false := by
                    simp only [decide_eq_false_iff_not]
                    split <;> omega
                  go_wp2
                  go_region_law (first
                    | (go_simp; go_at_call 15; refine (len2 _ stH).mono ?_; rintro e w13 ⟨rfl, rfl⟩)
                    | (go_simp; go_at_call 20; refine (sam _ _ _ hslG hsG).mono ?_; rintro e wH ⟨rfl, hbH⟩; have stH := nextS stG hbH; have lwH := lwG.next hbH; have hsH := hsG.below hbH; have setH := setG.below hbH; obtain ⟨cH0, cH1⟩ := lwH.cells; have szH := hbH.size)
                    | (go_simp; go_at_call 13; refine (cnt _ stF).mono ?_; rintro e wG ⟨AG, cG, rfl, hslG, hbG, _⟩; have stG := nextS stF hbG; have lwG := lwF.next hbG; have hsG := hsF.below hbG; have setG := setF.below hbG; obtain ⟨cG0, cG1⟩ := lwG.cells; have szG := hbG.size)
                    | (go_simp; go_at_call 14; refine qdone.mono ?_; rintro e wF ⟨rfl, hbF⟩; have stF := nextS setE hbF; have lwF := lwE.next hbF; have hsF := hsE.below hbF; have setF := setD.below hbF; obtain ⟨cF0, cF1⟩ := lwF.cells; have szF := hbF.size)
                    | (go_simp; go_at_call 15; refine qlen.mono ?_; rintro e w12 ⟨rfl, rfl⟩))
                  all_goals
                    go_wp2
                    refine ⟨⟨k + 1, s', q', A7, c7, by omega, by go_num, by rw [HL2.out], ⟨setH, by rw [HL2.out]; exact hsH, by rw [HL2.out]; exact far7, by rw [show (42 + ((k + 1 : Nat) : Int)) = 42 + k + 1 by omega]; exact ss6, gd6, lwH, by omega⟩⟩, by simp [intOf]; omega⟩

    · go_wp2
      go_ret
      exact ⟨rfl, pl.lw.ext⟩
end Go.Proofs.Ytmfmniecoaihhaa
