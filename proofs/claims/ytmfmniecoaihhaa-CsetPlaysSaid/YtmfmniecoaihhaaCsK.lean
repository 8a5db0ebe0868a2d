/- The walk of package cset's Counts: a range over slices.Backward. -/
import Derived.RangeFuncBox
import Derived.RangeFuncNested
import Derived.RangeFuncLeaves
import Derived.Shelf.Abstract
import Derived.OwnWalkIn
import Derived.TacticsInMore
import Derived.LoopNIn
import Derived.LoopIn
import Derived.Maps.AppendAt
import Derived.Test.YtmfmniecoaihhaaCsC
namespace Go.Proofs.Ytmfmniecoaihhaa
open Go.RowKit Go.Shelf

attribute [local go_sem] Oper.semAt_some

/-- The walk may not lay an append open: it stands under a name of its own. -/
def AppS (ts : Array TypeId) (ty : TypeId) (args : Array Value) : Sem Value := Builtin.append_ ts ty args
theorem appS (ts : Array TypeId) (ty : TypeId) (args : Array Value) : Builtin.append_ ts ty args = AppS ts ty args := rfl

/-- What has come when k rounds are over. -/
def uptoK {α : Type} (f : Nat → α) (k : Nat) : List α := (List.range k).map f
theorem uptoK_succ {α : Type} (f : Nat → α) (k : Nat) : uptoK f (k + 1) = uptoK f k ++ [f k] := by simp [uptoK, List.range_succ]
theorem uptoK_length {α : Type} (f : Nat → α) (k : Nat) : (uptoK f k).length = k := by simp [uptoK]

/-- What lay below n₀, and block Bs, lies as it lay. -/
structure KpB (n₀ Bs : Nat) (W W' : World) : Prop where
  below : Below n₀ W W'
  blk : W'.heap[Bs]? = W.heap[Bs]?
theorem KpB.refl (n₀ Bs : Nat) (W : World) : KpB n₀ Bs W W := ⟨Below.refl _ _, rfl⟩
theorem KpB.trans {n₀ Bs : Nat} {A B C : World} (h : KpB n₀ Bs A B) (k : KpB n₀ Bs B C) : KpB n₀ Bs A C := ⟨h.below.trans k.below, k.blk.trans h.blk⟩
theorem kpB_b {n₀ Bs : Nat} {w : World} (h : n₀ ≤ w.heap.size) (hB : Bs < w.heap.size) (W : World) (l : Nat) (o o' : Obj) (hl : w.heap.size ≤ l) (ho : W.heap[l]? = some o) (hc : o.isCells = false) (hw : o.isWalk = false) : KpB n₀ Bs W (W.putObj l o') :=
  ⟨belowK_b h W l o o' hl ho hc hw, World.putObj_heap_other (by omega)⟩

set_option maxRecDepth 100000 in
set_option maxHeartbeats 2000000 in
theorem back1_in (F : Fence) (n : Nat) (h7 : F.fn 32) (hro : F.round = none) (hn : 1 ≤ n) (l Bs n₀ : Nat) (A : Option Addr) (cap : Nat) (zs : List Int) (hreach : zs.length ≤ 100000) (J Jx : List (Int × Int) → World → Prop)
    (hY : ∀ pre x W, J pre W → pre.length < zs.length → YieldAt F (n - 1) Try.prog l #[.int .i64 x.1, .int .i64 x.2] W fun e W' =>
      (e = .returned (.bool true) ∧ J (pre ++ [x]) W' ∧ KpB n₀ Bs W W') ∨ (e = .returned (.bool false) ∧ Jx (pre ++ [x]) W'))
    (W : World) (hBs : W.cell? ⟨Bs, 0, none⟩ = some (.slice A zs.length cap)) (hs : Sl W A cap (zs.map (Value.int .i64))) (hA : ∀ ad, A = some ad → ad.block < n₀) (h0 : J [] W) :
    CallsIn F n Try.prog 32 #[.func (.yield l) #[] #[], .pointer (some ⟨Bs, 0, none⟩)] W fun e W' => (∃ v, e = .returned v) ∧
      ((∃ ys, ys = uptoK (fun j => ((zs.length : Int) - 1 - j, zs.reverse[j]?.getD 0)) zs.length ∧ J ys W') ∨ (∃ pre, (∃ k, k ≤ zs.length ∧ pre = uptoK (fun j => ((zs.length : Int) - 1 - j, zs.reverse[j]?.getD 0)) k) ∧ Jx pre W')) := by
  refine callsIn_of_wp Try.func32 rfl h7 ?_ hro
  simp only [Try.ntmps32, List.size_toArray, List.length_cons, List.length_nil, Nat.reduceAdd, Nat.reduceSub, Array.replicate_succ, Array.replicate_zero, List.push_toArray, List.append_toArray, List.nil_append, List.cons_append]
  gi_wp2
  gi_loopw [3] (fun i wr => ∃ k : Nat, k ≤ zs.length ∧ i = .int .i64 ((zs.length : Int) - 1 - k) ∧ J (uptoK (fun j => ((zs.length : Int) - 1 - j, zs.reverse[j]?.getD 0)) k) wr ∧ KpB n₀ Bs W wr)
    (fun i _ => (intOf i + 1).toNat)
  case atStart => exact ⟨0, Nat.zero_le _, by simp, h0, KpB.refl _ _ _⟩
  case round =>
    obtain ⟨k, hk, rfl, hJs, hnx⟩ := hrel
    have hBs' : wr.cell? ⟨Bs, 0, none⟩ = some (.slice A zs.length cap) := (World.cell?_of_block (a := ⟨Bs, 0, none⟩) hnx.blk).trans hBs
    by_cases hlt : k < zs.length
    · obtain ⟨m, hm⟩ : ∃ m : Nat, m + k + 1 = zs.length := ⟨zs.length - 1 - k, by omega⟩
      have hz : zs.reverse[k]?.getD 0 = zs[m]?.getD 0 := by
        rw [List.getElem?_reverse hlt, show zs.length - 1 - k = m by omega]
      obtain ⟨ad, rfl, hc⟩ := hs.at_ (k := m) (by simp; omega)
      have hc' : wr.cell? (ad.add m) = some (.int .i64 (zs[m]?.getD 0)) := by
        rw [hnx.below.cell (p := ad.add m) (by rw [addr_block]; exact hA ad rfl), hc]
        simp [List.getElem?_eq_getElem (show m < zs.length by omega)]
      clear hc
      have hmi : ((zs.length : Int) - 1 - k) = m := by omega
      obtain ⟨fn, tmps, assign, body, hy, hR⟩ := hY _ ((zs.length : Int) - 1 - k, zs.reverse[k]?.getD 0) wr hJs (by rw [uptoK_length]; exact hlt)
      dsimp only at hy
      rw [hz, hmi] at hy
      rw [hmi]
      have hlz : (m : Int) < (zs.length : Int) := by omega
      have HZ := Lib.hid hz
      have HM := Lib.hid hmi
      clear hz hmi hm
      gi_wp2
      refine hR.mono ?_
      rintro e W3 (⟨rfl, hJ3, hk3⟩ | ⟨rfl, hJx3⟩)
      · gi_wp2
        go_roundw
        case rel => exact ⟨k + 1, by omega, by have := HM.out; congr 1; omega, by rw [uptoK_succ]; exact hJ3, hnx.trans hk3⟩
        case measure => simp [intOf]
      · gi_wp2
        refine bodyPost_ret (results_none rfl _ _ _) rfl ?_
        exact ⟨⟨_, rfl⟩, .inr ⟨_, ⟨k + 1, by omega, (uptoK_succ _ _).symm⟩, hJx3⟩⟩
    · obtain rfl : k = zs.length := by omega
      have hneg : ((zs.length : Int) - 1 - zs.length) = -1 := by omega
      rw [hneg]
      gi_wp2
      go_end0
      exact ⟨⟨_, rfl⟩, .inl ⟨_, rfl, hJs⟩⟩

set_option maxHeartbeats 1000000 in
theorem back_in (F : Fence) (n : Nat) (h5 : F.fn 25) (hro : F.round = none) (a : Option Addr) (len cap : Nat) (w : World) :
    CallsIn F n Try.prog 25 #[.slice a len cap] w fun e w' => e = .returned (.func (.func 32) #[] #[.pointer (some ⟨w.heap.size, 0, none⟩)]) ∧ w' = w.alloc (.cells #[.slice a len cap] 32) := by
  refine callsIn_of_wp Try.func25 rfl h5 ?_ hro
  simp only [Try.ntmps25, List.size_toArray, List.length_cons, List.length_nil, Nat.reduceAdd, Nat.reduceSub, Array.replicate_succ, Array.replicate_zero, List.push_toArray, List.append_toArray, List.nil_append, List.cons_append]
  gi_wp2
  go_ret
  exact ⟨rfl, rfl⟩

theorem back_stops (F : Fence) (n : Nat) (h7 : F.fn 32) (hro : F.round = none) (hn : 1 ≤ n) (Bs n₀ : Nat) (A : Option Addr) (cap : Nat) (zs : List Int) (hreach : zs.length ≤ 100000) (w : World) (hBs : Bs < w.heap.size) (hn₀ : n₀ ≤ w.heap.size)
    (hc : w.cell? ⟨Bs, 0, none⟩ = some (.slice A zs.length cap)) (hs : Sl w A cap (zs.map (Value.int .i64))) (hA : ∀ ad, A = some ad → ad.block < n₀) :
    SeqStopsK F n Try.prog 32 #[.pointer (some ⟨Bs, 0, none⟩)] (fun x : Int × Int => #[Value.int .i64 x.1, Value.int .i64 x.2]) (KpB n₀ Bs) (fun ys => ys = uptoK (fun j => ((zs.length : Int) - 1 - j, zs.reverse[j]?.getD 0)) zs.length)
      (fun pre => ∃ k, k ≤ zs.length ∧ pre = uptoK (fun j => ((zs.length : Int) - 1 - j, zs.reverse[j]?.getD 0)) k) zs.length w := fun l J Jx W hW _ _ hY h0 => by
  have hc' := (hW.cell (p := ⟨Bs, 0, none⟩) hBs).trans hc
  exact back1_in F n h7 hro hn l Bs n₀ A cap zs hreach J Jx hY W hc' (hs.below hW) hA h0
/-- What the rounds have collected. -/
def colK (off : Int) (pre : List (Int × Int)) : List Value := pre.map fun p => .int .i64 (IntKind.i64.wrap (off - p.2))
theorem colK_snoc (off : Int) (pre : List (Int × Int)) (x : Int × Int) : colK off (pre ++ [x]) = colK off pre ++ [.int .i64 (IntKind.i64.wrap (off - x.2))] := by simp [colK]
theorem colK_length (off : Int) (pre : List (Int × Int)) : (colK off pre).length = pre.length := by simp [colK]
theorem colK_all (off : Int) (cs : List Int) (hb : ∀ c ∈ cs, 1 ≤ c ∧ c ≤ 1000) : colK off (uptoK (fun j => (((cs.map (off - ·)).length : Int) - 1 - j, (cs.map (off - ·)).reverse[j]?.getD 0)) (cs.map (off - ·)).length) = cs.reverse.map (Value.int .i64) := by
  apply List.ext_getElem
  · simp [colK, uptoK]
  · intro i h1 h2
    have hi : i < cs.length := by simpa [colK, uptoK] using h1
    simp only [colK, uptoK, List.map_map, List.getElem_map, List.getElem_range, Function.comp]
    rw [List.getElem?_eq_getElem (by simpa using hi)]
    simp only [Option.getD_some, List.getElem_reverse, List.getElem_map, List.length_map]
    have := hb cs[cs.length - 1 - i] (List.getElem_mem _)
    congr 1
    rw [IntKind.wrap_i64]
    omega
theorem qc_ints (off : Int) (cs : List Int) : qc off cs = (cs.map (off - ·)).map (Value.int .i64) := by simp [qc]

/-- The end of a call that makes a slice of numbers. -/
def RetI (l : List Int) (w : World) (e : Ending) (w' : World) : Prop :=
  ∃ A c, e = .returned (.slice A l.length c) ∧ Sl w' A c (l.map (Value.int .i64)) ∧ Below w.heap.size w w' ∧ ∀ ad, A = some ad → w.heap.size ≤ ad.block
theorem below_drew {n : Nat} {a w : World} (h : Below n a w) : Below n a w.drew := ⟨h.os, h.tape, h.output, h.size, h.block⟩

theorem app_own {P : Program} {W : World} {n₀ : Nat} {i0 : TypeInfo} (T e : TypeId) (hT : P.underlying T = some (.slice e)) (hi : P.info? e = some i0) (hz0 : i0.zero = some (.int .i64 0)) (hz1 : i0.size = 1) (hz2 : i0.bytes = 8)
    (v : Value) (xs : List Value) (hrow : W.ownsRow n₀ e 1 v xs.length xs) (hn₀ : n₀ ≤ W.heap.size) (hl : xs.length ≤ 100000) (u : Value) (h1 : u.oneCell' = true) :
    ∃ A' c' w', (AppS #[T, T] T #[v, .slice (some ⟨W.heap.size, 0, none⟩) 1 1]).run P (W.alloc (.cells #[u] e)).drew = .ok (.slice A' (xs.length + 1) c') w' ∧ w'.ownsRow n₀ e 1 (.slice A' (xs.length + 1) c') (xs ++ [u]).length (xs ++ [u]) ∧ (W.alloc (.cells #[u] e)).grownBy w' v.ownBlock := by
  obtain ⟨v', w', hr, h2, h3, _⟩ := run_append_own_at (P := P) (W.alloc (.cells #[u] e)).drew n₀ T T e i0 (.int .i64 0) 1 8 hT hi hz0 hz1 hz2 rfl (by omega) v xs.length xs (World.ownsRow.alloc hrow _) ⟨W.heap.size, 0, none⟩ 1 1 [u] rfl
    (fun j x hx => by simpa using cell_one_new W u e j x hx) (fun x hx => by rw [List.mem_singleton] at hx; subst hx; exact h1) (by unfold maxLen; omega) (by omega) (by show n₀ ≤ (W.heap.push _).size; rw [Array.size_push]; omega)
  obtain ⟨g', cap', rfl⟩ := ownsRow_succ h2
  exact ⟨_, _, w', hr, by rw [List.length_append]; exact h2, ⟨h3.os, h3.tape, h3.output, h3.size, h3.block⟩⟩

attribute [local go_sem ↓] appS

set_option maxRecDepth 100000 in
set_option maxHeartbeats 4000000 in
theorem counts_in (F : Fence) (n : Nat) (hF : ∀ f, F.fn f) (hro : F.round = none) (hn : 3 ≤ n) (g base : Nat) (lo hi b : Int) (s : St) (w : World) (hsc : Sc lo hi) (h : SetIs w g base lo hi s) (hs : s.Sane b) (hk : b ≤ 1000) :
    CallsIn F n Try.prog 13 #[.pointer (some ⟨g, 0, none⟩)] w (RetI (s.counts lo) w) := by
  have h1 : 1 ≤ n := by omega
  obtain ⟨i0, hi0, hz0, hz1, hz2⟩ := info_parts infoI
  obtain ⟨v, hblk, hq⟩ := h
  obtain ⟨A, c, rfl, hsl, hA⟩ := hq.sl
  obtain ⟨off, cs, full, steps⟩ := s
  have hle := hs.length
  have o0 := hs.off0
  have o1 := hs.off1
  have hmem := hs.mem
  dsimp only at hle o0 o1 hblk hq hsl hmem
  have hgl := blk_lt hblk
  rw [qc_ints] at hblk hsl
  rw [List.length_map] at hblk
  obtain ⟨zs, hzs⟩ : ∃ zs, zs = cs.map (off - ·) := ⟨_, rfl⟩
  rw [← hzs] at hblk hsl
  have hzl : zs.length = cs.length := by rw [hzs]; simp
  have hzm : ∀ z ∈ zs, off - z ∈ cs ∧ 1 ≤ off - z ∧ off - z ≤ b := fun z hz => by
    rw [hzs] at hz
    obtain ⟨x, hx, rfl⟩ := List.mem_map.1 hz
    rw [show off - (off - x) = x by omega]
    exact ⟨hx, hmem x hx⟩
  obtain ⟨c0, c1, c2, c3, c4, c5⟩ := six_cells hblk
  refine callsIn_of_wp_marks Try.func13 rfl (hF _) ?_ hro
  simp only [Try.ntmps13, List.size_toArray, List.length_cons, List.length_nil, Nat.reduceAdd, Nat.reduceSub, Array.replicate_succ, Array.replicate_zero, List.push_toArray, List.append_toArray, List.nil_append, List.cons_append]
  have bR := Boxed.new w 30 (.pointer (some ⟨g, 0, none⟩))
  have bO := Boxed.new (w.alloc (.cells #[.pointer (some ⟨g, 0, none⟩)] 30)) 32 (.slice none 0 0)
  have bN := Boxed.new ((w.alloc (.cells #[.pointer (some ⟨g, 0, none⟩)] 30)).alloc (.cells #[.slice none 0 0] 32)) 32 (.slice A zs.length c)
  rw [World.size_alloc] at bO
  rw [World.size_alloc, World.size_alloc] at bN
  have HZS := Lib.hid hzs
  have HZL := Lib.hid hzl
  have hzl' : zs.length ≤ 100000 := by omega
  clear hzs hmem hzl
  gi_wp2_with (gi_at_call 25; refine (back_in F (n - 1) (hF _) hro _ _ _ _).mono ?_; rintro e w' ⟨rfl, rfl⟩)
  have hsz : (((w.alloc (.cells #[.pointer (some ⟨g, 0, none⟩)] 30)).alloc (.cells #[.slice none 0 0] 32)).alloc (.cells #[.slice A zs.length c] 32)).heap.size = w.heap.size + 3 := by simp
  have hB0 : Below w.heap.size w (((w.alloc (.cells #[.pointer (some ⟨g, 0, none⟩)] 30)).alloc (.cells #[.slice none 0 0] 32)).alloc (.cells #[.slice A zs.length c] 32)) :=
    (((Below.refl _ w).alloc (Nat.le_refl _) _).alloc (by simp) _).alloc (by simp; omega) _
  have bR0 := (bR.alloc (.cells #[.slice none 0 0] 32)).alloc (.cells #[.slice A zs.length c] 32)
  have bO0 := bO.alloc (.cells #[.slice A zs.length c] 32)
  obtain ⟨w0, hw0⟩ : ∃ w0, w0 = (((w.alloc (.cells #[.pointer (some ⟨g, 0, none⟩)] 30)).alloc (.cells #[.slice none 0 0] 32)).alloc (.cells #[.slice A zs.length c] 32)) := ⟨_, rfl⟩
  rw [← hw0] at hsz hB0 bR0 bO0 bN ⊢
  clear hw0 bR bO
  refine wpIn_rangeFunc_ownG hro h1 (gf := 32) (lb := #[.pointer (some ⟨w.heap.size + 1 + 1, 0, none⟩)]) rfl (hF _) (enters_of Try.func32 (by kernel_rfl) rfl)
    (back_stops F (n - 1) (hF _) hro (by omega) (w.heap.size + 1 + 1) w.heap.size A c zs hzl' w0 (by omega) (by omega) bN.cell (hsl.below hB0) (fun ad e => (hA ad e).2.2)) (fun h k => h.trans k) (fun W l o o' => kpB_b (by omega) (by omega) W l o o') (Below.refl _ _) (fun _ => rfl)
    (fun pre W => ((∃ v, Boxed W (w.heap.size + 1) 32 v ∧ W.ownsRow w.heap.size 2 1 v (colK off pre).length (colK off pre) ∧ True) ∧ (Boxed W w.heap.size 30 (.pointer (some ⟨g, 0, none⟩)) ∧ Boxed W (w.heap.size + 1 + 1) 32 (.slice A zs.length c))) ∧ Below w.heap.size w W)
    (fun _ _ _ => False)
    (OwnFrom.and (OwnFrom.and (Own.from (holdsRow_own w.heap.size (w.heap.size + 1) 32 2 1 (fun pre => (colK off pre).length) (fun pre => colK off pre) (fun _ _ => True)) _) (OwnFrom.and (Own.from (boxed_own _ _ _) _) (Own.from (boxed_own _ _ _) _))) (ownFrom_below (Nat.le_refl _) (by omega)))
    (fun _ _ _ _ _ hs _ _ => hs)
    ⟨⟨⟨_, bO0, World.ownsRow_nil _ _ _ _, trivial⟩, bR0, bN⟩, hB0⟩
    (fun x => { tmps := #[.pointer (some ⟨g, 0, none⟩), .pointer (some ⟨w.heap.size, 0, none⟩), .slice none 0 0, .pointer (some ⟨w.heap.size + 1, 0, none⟩), undef, .int .i64 x.2, .pointer (some ⟨g, 0, none⟩), .pointer (some ⟨g, 0, none⟩), .pointer (some ⟨g, 3, none⟩), .slice A zs.length c, .func (.func 32) #[] #[.pointer (some ⟨w.heap.size + 1 + 1, 0, none⟩)], .int .i64 x.1, .int .i64 x.2, undef, undef, undef, undef, undef, undef, undef, undef, undef, undef, undef, undef, undef, undef, undef, undef, undef, undef, undef, undef, undef, undef], defers := [] }) ?assign ?body ?done ?stop
  case assign =>
    intro l x W K hK
    gi_wp2
    exact hK
  case body =>
    rintro l pre x W ⟨⟨⟨v, hv, hrow, _⟩, hR, hN⟩, hB⟩ hlt
    obtain ⟨A', c', w', hrun, hown', hgr⟩ := app_own 32 2 Try.underlying32 hi0 hz0 hz1 hz2 v (colK off pre) hrow hB.size (by rw [colK_length]; omega) (.int .i64 (IntKind.i64.wrap (off - x.2))) rfl
    obtain ⟨hv1, hv2, hr2, hk2, hb2⟩ := hv.appended (by decide) hrow hB.size (by omega) hown' hgr
    have hR2 := ((hR.alloc (.cells #[.int .i64 (IntKind.i64.wrap (off - x.2))] 2)).kept hgr (hR.not_row (by decide) hrow)).other (B' := w.heap.size + 1) (by omega) (.slice A' ((colK off pre).length + 1) c')
    have hN2 := ((hN.alloc (.cells #[.int .i64 (IntKind.i64.wrap (off - x.2))] 2)).kept hgr (hN.not_row (by decide) hrow)).other (B' := w.heap.size + 1) (by omega) (.slice A' ((colK off pre).length + 1) c')
    have e1 := hv.cell
    have e2 := hR.cell
    have e3 := (hB.cell (p := ⟨g, 2, none⟩) hgl).trans c2
    have e4 := hv1.cell
    have e5 := hv1.frozen
    have q1 := hv.lt
    have q2 := hR.lt
    have q3 := hN.lt
    have q4 := hB.size
    have fin : ∀ a, ownPostG w0.heap.size (KpB w.heap.size (w.heap.size + 1 + 1)) (fun pre W => ((∃ v, Boxed W (w.heap.size + 1) 32 v ∧ W.ownsRow w.heap.size 2 1 v (colK off pre).length (colK off pre) ∧ True) ∧ (Boxed W w.heap.size 30 (.pointer (some ⟨g, 0, none⟩)) ∧ Boxed W (w.heap.size + 1 + 1) 32 (.slice A zs.length c))) ∧ Below w.heap.size w W) (fun _ _ _ => False) (pre ++ [x]) W .normal a (w'.setCell ⟨w.heap.size + 1, 0, none⟩ (.slice A' ((colK off pre).length + 1) c')) :=
      fun a => ⟨hk2.from _, ⟨hb2, hN2.trans hN.symm⟩, ⟨⟨_, hv2, by rw [colK_snoc]; exact hr2, trivial⟩, hR2, hN2⟩, hB.trans hb2⟩
    clear hown' hgr hv hrow hk2 hb2 hr2 hv1 hv2 hR hN hR2 hN2 hB hblk hsl c0 c1 c2 c3 c4 c5 bR0 bO0 bN hB0 hzm hA hq
    gi_wp2
    gi_region
    all_goals
      gi_wp2
      exact fin _
  case done =>
    rintro D ys W hD rfl ⟨⟨⟨v, hv, hrow, _⟩, hR, hN⟩, hB⟩ hK
    have hmem : ∀ c ∈ cs, 1 ≤ c ∧ c ≤ 1000 := fun c hc => by have := hs.mem c hc; omega
    have hcol := colK_all off cs hmem
    rw [← HZS.out] at hcol
    have hlen : (colK off (uptoK (fun j => ((zs.length : Int) - 1 - j, zs.reverse[j]?.getD 0)) zs.length)).length ≤ 100000 := by rw [colK_length, uptoK_length]; exact hzl'
    rw [hcol] at hrow hlen
    have e1 := hv.cell
    have e2 := hR.cell
    have e3 := (hB.cell (p := ⟨g, 4, none⟩) hgl).trans c4
    have e0 := (hB.cell (p := ⟨g, 0, none⟩) hgl).trans c0
    have q1 := hv.lt
    have q2 := hR.lt
    have q4 := hB.size
    clear hmem hcol hsl hA hq hzm hblk c0 c1 c2 c3 c4 c5 bR0 bO0 bN hB0
    cases full with
    | false =>
      obtain ⟨Av, cv, rfl, _, _⟩ := Ow.sl hrow
      gi_wp2
      refine ⟨by simp, .inl ⟨_, _, rfl, run_takeDeferred hK, ?_⟩⟩
      have hfin := ownsRow_putObj hrow (.deferred none) hK rfl
      obtain ⟨A2, c2, he, hsl2, hf2⟩ := Ow.sl hfin
      injection he with h1 h2 h3
      subst h1 h3
      refine ⟨_, results_tmp rfl _ _ _, Av, cv, ?_, ?_, hB.trans (belowK_b (w := w) (Nat.le_refl _) W D _ _ (by omega) hK rfl rfl), fun ad e => (hf2 ad e).1⟩
      · simp [St.counts]
      · simpa [St.counts] using hsl2
    | true =>
      obtain ⟨A', c', w', hrun, hown', hgr⟩ := app_own 32 2 Try.underlying32 hi0 hz0 hz1 hz2 v _ hrow hB.size hlen (.int .i64 lo) rfl
      have hml : (List.map (Value.int .i64) cs.reverse).length = cs.length := by simp
      rw [hml] at hrun hown'
      clear hml hlen
      obtain ⟨hv1, hv2, hr2, hk2, hb2⟩ := hv.appended (by decide) hrow hB.size (by omega) hown' hgr
      have e4 := hv1.cell
      have e5 := hv1.frozen
      have e6 := hv2.cell
      have hK' := hk2.same D _ hK rfl
      have hfin := ownsRow_putObj hr2 (.deferred none) hK' rfl
      obtain ⟨A2, c2, he, hsl2, hf2⟩ := Ow.sl hfin
      injection he with h1 h2 h3
      subst h1 h3
      clear h2
      have hb3 := hB.trans (hb2.trans (belowK_b (w := w) (Nat.le_refl _) _ D _ (.deferred none) (by omega) hK' rfl rfl))
      have hln : cs.length + 1 = (St.counts lo ⟨off, cs, true, steps⟩).length := by simp [St.counts]
      have hcl : (St.counts lo ⟨off, cs, true, steps⟩).map (Value.int .i64) = List.map (Value.int .i64) cs.reverse ++ [.int .i64 lo] := by simp [St.counts]
      rw [← hcl] at hsl2
      have hf3 : ∀ ad, A' = some ad → w.heap.size ≤ ad.block := fun ad e => (hf2 ad e).1
      clear hf2
      have HLN := Lib.hid hln
      have HK := Lib.hid hK'
      clear hfin hown' hgr hv hrow hk2 hb2 hr2 hv1 hv2 hR hN hB hK hln hcl hK'
      gi_wp2
      gi_region
      all_goals
        gi_wp2
        refine ⟨by simp, .inl ⟨_, _, rfl, run_takeDeferred HK.out, ?_⟩⟩
        refine ⟨_, results_tmp rfl _ _ _, A', c', ?_, hsl2, hb3, hf3⟩
        rw [← HLN.out]
        rfl
  case stop =>
    rintro D c pre W _ _ h _
    exact h.elim

theorem counts_any (g base : Nat) (lo hi b : Int) (s : St) (w : World) (hsc : Sc lo hi) (h : SetIs w g base lo hi s) (hs : s.Sane b) (hk : b ≤ 1000) :
    Calls Try.prog 13 #[.pointer (some ⟨g, 0, none⟩)] w (RetI (s.counts lo) w) :=
  callsIn_wide.1 (counts_in Fence.wide 3 (fun _ => trivial) rfl (Nat.le_refl _) g base lo hi b s w hsc h hs hk)
end Go.Proofs.Ytmfmniecoaihhaa
