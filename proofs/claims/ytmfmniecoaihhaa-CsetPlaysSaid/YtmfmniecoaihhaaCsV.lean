/- The walks of layer 9's reference: Put, Next, Small, Do. -/
import Derived.Test.YtmfmniecoaihhaaCsR
namespace Go.Proofs.Ytmfmniecoaihhaa
open Go.RowKit

attribute [local go_sem ↓] appS

theorem ic_app (k : IntKind) (l m : List Int) : ic k (l ++ m) = ic k l ++ ic k m := by simp [ic]
theorem app_qu {P : Program} {W : World} {base : Nat} {i0 : TypeInfo} (T e : TypeId) (hT : P.underlying T = some (.slice e)) (hi : P.info? e = some i0) (hz0 : i0.zero = some (.int .i64 0)) (hz1 : i0.size = 1) (hz2 : i0.bytes = 8)
    (v : Value) (xs : List Value) (hq : Qu W base e v xs) (hbase : base ≤ W.heap.size) (hl : xs.length ≤ 100000) (u : Value) (h1 : u.oneCell' = true) :
    ∃ v' w', (AppS #[T, T] T #[v, .slice (some ⟨W.heap.size, 0, none⟩) 1 1]).run P (W.alloc (.cells #[u] e)) = .ok v' w' ∧ Qu w' base e v' (xs ++ [u]) ∧ Below base W w' := by
  obtain ⟨v', w', hr, h2, h3, _⟩ := run_append_qu (P := P) (W.alloc (.cells #[u] e)) base T T e i0 (.int .i64 0) 8 hT hi hz0 hz1 hz2 rfl v xs (hq.alloc _) ⟨W.heap.size, 0, none⟩ 1 u
    (cell_one_new W u e 0 u rfl) h1 (by omega) (by omega) (by simp; omega)
  exact ⟨v', w', hr, h2, ((Below.refl base W).alloc hbase _).grown h3 (by simp; omega) (fun k ek => (hq.lt k ek).1)⟩

theorem qu_ret {w w' : World} {v : Value} {l : List Int} (hq : Qu w' w.heap.size 2 v (ic .i64 l)) (hb : Below w.heap.size w w') : RetI l w (.returned v) w' := by
  obtain ⟨A, c, rfl, hs, hA⟩ := hq.sl
  rw [ic_length]
  exact ⟨A, c, rfl, hs, hb, fun ad e => (hA ad e).1⟩

set_option maxHeartbeats 1000000 in
theorem put_any (l : List Int) (n : Int) (A : Option Addr) (c : Nat) (w : World) (hs : Sl w A c (ic .i64 l)) (hl : l.length ≤ 5000) :
    Calls Try.prog 27 #[.slice A l.length c, .int .i64 n] w (RetI (putR n l false) w) := by
  obtain ⟨i0, hi0, hz0, hz1, hz2⟩ := info_parts infoI
  go_enter Try.func27, Try.ntmps27
  go_wp2
  go_loopw [5, 6, 7] (fun o d i wr => ∃ (k : Nat) (out : List Int) (dn : Bool), k ≤ l.length ∧ i = .int .i64 k ∧ d = .bool dn ∧ Qu wr w.heap.size 2 o (ic .i64 out) ∧ Hid (out ++ putR n (l.drop k) dn = putR n l false) ∧ Below w.heap.size w wr) (fun _ _ i _ => l.length - (intOf i).toNat)
  case atStart => exact ⟨0, [], false, by omega, rfl, rfl, Qu.nil _ _ _, Lib.hid (by simp), Below.refl _ _⟩
  case round =>
    obtain ⟨k, out, dn, hk, rfl, rfl, hq, hh, hb⟩ := hrel
    have hlen : out.length ≤ 5001 := by
      have h1 := congrArg List.length hh.out
      rw [List.length_append] at h1
      have h2 := putR_length n l false
      omega
    have hbs := hb.size
    by_cases hlt : k < l.length
    · obtain ⟨ad, rfl, hc⟩ := (hs.below hb).num hlt
      have hd : l.drop k = l.getD k 0 :: l.drop (k + 1) := by
        rw [List.drop_eq_getElem_cons hlt]
        simp [List.getD, List.getElem?_eq_getElem hlt]
      have hstep := hh.out
      rw [hd, putR] at hstep
      generalize l.getD k 0 = x at hc hstep
      have HS := Lib.hid hstep
      clear hstep hd hh
      by_cases h1 : dn = false ∧ n ≤ x
      · obtain ⟨rfl, hnx⟩ := h1
        have f1 : decide (n ≤ x) = true := by simpa using hnx
        obtain ⟨v1, w1, hr1, hq1, hb1⟩ := app_qu (P := Try.prog) 32 2 Try.underlying32 hi0 hz0 hz1 hz2 _ _ hq hbs (by rw [ic_length]; omega) (.int .i64 n) rfl
        have hq1' : Qu w1 w.heap.size 2 v1 (ic .i64 (out ++ [n])) := by rw [ic_app]; exact hq1
        have hb1' := hb.trans hb1
        have hc1 : w1.cell? (ad.add k) = some (.int .i64 x) := by
          obtain ⟨ad', e, hc'⟩ := (hs.below hb1').num hlt
          cases e
          obtain ⟨ad'', e, hc''⟩ := (hs.below hb).num hlt
          cases e
          rw [hc''] at hc
          rw [hc', hc]
        by_cases hxn : x = n
        · have f2 : (x != n) = false := by simp [hxn]
          have HS2 : Hid ((out ++ [n]) ++ putR n (l.drop (k + 1)) true = putR n l false) := Lib.hid (by have := HS.out; simp [hxn] at this; simpa using this)
          clear hq hb hb1 hq1 hs HS
          go_wp2
          exact ⟨⟨k + 1, out ++ [n], true, by omega, by go_num, rfl, hq1', HS2, hb1'⟩, by simp [intOf]; omega⟩
        · have f2 : (x != n) = true := by simp [hxn]
          obtain ⟨v2, w2, hr2, hq2, hb2⟩ := app_qu (P := Try.prog) 32 2 Try.underlying32 hi0 hz0 hz1 hz2 _ _ hq1' hb1'.size (by rw [ic_length]; simp; omega) (.int .i64 x) rfl
          have hq2' : Qu w2 w.heap.size 2 v2 (ic .i64 (out ++ [n] ++ [x])) := by rw [ic_app]; exact hq2
          have hb2' := hb1'.trans hb2
          have HS2 : Hid ((out ++ [n] ++ [x]) ++ putR n (l.drop (k + 1)) true = putR n l false) := Lib.hid (by have := HS.out; simp [hxn, hnx] at this; simpa using this)
          clear hq hb hb1 hq1 hs HS hb2 hq2 hq1' hb1'
          go_wp2
          exact ⟨⟨k + 1, out ++ [n] ++ [x], true, by omega, by go_num, rfl, hq2', HS2, hb2'⟩, by simp [intOf]; omega⟩
      · have hdd : (!dn && decide (n ≤ x)) = false := by
          cases dn with
          | true => rfl
          | false => simp at h1 ⊢; omega
        have hor : (dn || decide (n ≤ x)) = (dn || decide (n ≤ x)) := rfl
        by_cases hxn : x = n
        · have hdt : dn = true := by
            cases dn with
            | true => rfl
            | false => simp at h1; omega
          subst hdt
          have f2 : (x != n) = false := by simp [hxn]
          have HS2 : Hid (out ++ putR n (l.drop (k + 1)) true = putR n l false) := Lib.hid (by have := HS.out; simp [hxn] at this; simpa using this)
          clear HS h1 hdd hor
          go_wp2
          exact ⟨⟨k + 1, out, true, by omega, by go_num, rfl, hq, HS2, hb⟩, by simp [intOf]; omega⟩
        · have f2 : (x != n) = true := by simp [hxn]
          obtain ⟨v2, w2, hr2, hq2, hb2⟩ := app_qu (P := Try.prog) 32 2 Try.underlying32 hi0 hz0 hz1 hz2 _ _ hq hbs (by rw [ic_length]; omega) (.int .i64 x) rfl
          have hq2' : Qu w2 w.heap.size 2 v2 (ic .i64 (out ++ [x])) := by rw [ic_app]; exact hq2
          have hb2' := hb.trans hb2
          cases dn with
          | true =>
            have HS2 : Hid ((out ++ [x]) ++ putR n (l.drop (k + 1)) true = putR n l false) := Lib.hid (by have := HS.out; simp [hxn] at this; simpa using this)
            clear hq hb hb2 hq2 hs HS h1 hdd hor
            go_wp2
            exact ⟨⟨k + 1, out ++ [x], true, by omega, by go_num, rfl, hq2', HS2, hb2'⟩, by simp [intOf]; omega⟩
          | false =>
            have hnx : ¬ n ≤ x := by simpa using h1
            have f1 : decide (n ≤ x) = false := by simpa using hnx
            have HS2 : Hid ((out ++ [x]) ++ putR n (l.drop (k + 1)) false = putR n l false) := Lib.hid (by have := HS.out; simp [hxn, f1] at this; simpa using this)
            clear hq hb hb2 hq2 hs HS h1 hdd hor
            go_wp2
            exact ⟨⟨k + 1, out ++ [x], false, by omega, by go_num, rfl, hq2', HS2, hb2'⟩, by simp [intOf]; omega⟩
    · obtain rfl : k = l.length := by omega
      have hh' := hh.out
      rw [List.drop_length, putR] at hh'
      cases dn with
      | true =>
        simp only [if_true, List.append_nil] at hh'
        have HH := Lib.hid hh'
        clear hh'
        go_wp2
        go_ret
        rw [← HH.out]
        exact qu_ret hq hb
      | false =>
        simp only [Bool.false_eq_true, if_false] at hh'
        have HH := Lib.hid hh'
        clear hh'
        obtain ⟨v1, w1, hr1, hq1, hb1⟩ := app_qu (P := Try.prog) 32 2 Try.underlying32 hi0 hz0 hz1 hz2 _ _ hq hbs (by rw [ic_length]; omega) (.int .i64 n) rfl
        go_wp2
        go_ret
        rw [← HH.out]
        exact qu_ret (by rw [ic_app]; exact hq1) (hb.trans hb1)

theorem rtop_any (lo hi : Int) (w : World) : Calls Try.prog 33 #[.agg #[.int .i64 lo, .int .i64 hi]] w fun e w' => e = .returned (.int .i64 (rtop lo hi)) ∧ Below w.heap.size w w' := by
  have hb : ∀ o, Below w.heap.size w (w.alloc o) := fun o => (Below.refl _ w).alloc (Nat.le_refl _) _
  by_cases h : hi < 0
  · rw [rtop, if_pos h]
    go_enter Try.func33, Try.ntmps33
    go_wp2
    go_ret
    exact ⟨rfl, hb _⟩
  · rw [rtop, if_neg h]
    go_enter Try.func33, Try.ntmps33
    go_wp2
    go_ret
    exact ⟨rfl, hb _⟩

set_option maxHeartbeats 1000000 in
theorem rnext_any (lo hi : Int) (l : List Int) (A : Option Addr) (c : Nat) (w : World) (hsc : Sc lo hi) (hs : Sl w A c (ic .i64 l)) (hl : l.length ≤ 1500) (hb : ∀ x ∈ l, 1 ≤ x ∧ x ≤ 2147483647) :
    Calls Try.prog 28 #[.agg #[.int .i64 lo, .int .i64 hi], .slice A l.length c] w (RetI (nextL lo hi l) w) := by
  have hbx : (w.alloc (.cells #[.int .i64 lo, .int .i64 hi] 28)).heap[w.heap.size]? = some (.cells #[.int .i64 lo, .int .i64 hi] 28) := heap_alloc_new w _
  have hb0 : Below w.heap.size w (w.alloc (.cells #[.int .i64 lo, .int .i64 hi] 28)) := (Below.refl _ w).alloc (Nat.le_refl _) _
  have lw0 : Lw w (w.alloc (.cells #[.int .i64 lo, .int .i64 hi] 28)) w.heap.size lo hi := ⟨hbx, hb0, Nat.le_refl _⟩
  clear hbx hb0
  go_enter Try.func28, Try.ntmps28
  go_wp2
  go_loopw [5, 6] (fun o i wr => ∃ (k : Nat) (out : List Int) (B : Option Addr) (d : Nat), k ≤ l.length ∧ i = .int .i64 k ∧ o = .slice B out.length d ∧ Sl wr B d (ic .i64 out) ∧ (∀ ad, B = some ad → w.heap.size ≤ ad.block) ∧ out.length ≤ k ∧ Hid ((l.drop k).foldl (nextStep lo hi) out = nextL lo hi l) ∧ Lw w wr w.heap.size lo hi) (fun _ i _ => l.length - (intOf i).toNat)
  case atStart => exact ⟨0, [], none, 0, by omega, rfl, rfl, Sl.none_ _, fun _ e => (by cases e), by simp, Lib.hid rfl, lw0⟩
  case round =>
    clear lw0
    obtain ⟨k, out, B, d, hk, rfl, rfl, ho, hof, hok, hh, lwr⟩ := hrel
    obtain ⟨c0, c1⟩ := lwr.cells
    by_cases hlt : k < l.length
    · obtain ⟨ad, rfl, hc⟩ := (hs.below lwr.ext).num hlt
      have hx := hb _ (getD_mem hlt)
      have hd : l.drop k = l.getD k 0 :: l.drop (k + 1) := by
        rw [List.drop_eq_getElem_cons hlt]
        simp [List.getD, List.getElem?_eq_getElem hlt]
      have hstep := hh.out
      rw [hd, List.foldl_cons] at hstep
      have hlen := nextStep_length lo hi out (l.getD k 0)
      generalize l.getD k 0 = x at hc hstep hx hlen
      have hns : nextStep lo hi out x = if x < rtop lo hi then putR (x + 1) out false else if hi < 0 then putR lo out false else out := rfl
      have HS := Lib.hid hstep
      have HN := Lib.hid hns
      clear hstep hd hh hns
      have g0 := cell_regrown c0
      have g1 := cell_regrown c1
      have gc := cell_regrown hc
      have q1 := fun dd os => Calls.regrown_of (rtop_any lo hi (Go.Sort.grow (redrawn wr dd) os))
      have k0 : (0 : Int) ≤ (k : Int) := by omega
      have k1 : (k : Int) < (l.length : Int) := by omega
      generalize rtop lo hi = rt at q1 HN
      by_cases hxr : x < rt
      · go_wp2
        refine wp_region_quiet_below (by kernel_rfl) (by kernel_rfl) ?_
        repeat (quiet_step (fail))
        quiet_step (exact q1 _ _)
        repeat (quiet_step (fail))
        refine wpQuiet_nil ?_
        intro _ hw'
        obtain ⟨⟨dq, osq⟩, hw''⟩ := hw'
        subst hw''
        have hbq := below_regrown wr dq osq
        have lwq := lwr.next hbq
        have hoq := ho.below hbq
        have hcq := gc dq osq
        generalize Go.Sort.grow (redrawn wr dq) osq = wq at *
        clear g0 g1 gc q1 c0 c1 lwr ho hc
        go_wp2_with fail
        refine (put_any out (x + 1) B d wq hoq (by omega)).mono ?_
        rintro e w2 ⟨B2, d2, rfl, ho2, hb2, hf2⟩
        have lw2 := lwq.next hb2
        rw [if_pos hxr] at HN
        rw [HN.out] at HS hlen
        go_wp2
        exact ⟨⟨k + 1, _, B2, d2, by omega, by go_num, rfl, ho2, fun ad e => by have := hf2 ad e; have := lwq.size; omega, by omega, HS, lw2⟩, by simp [intOf]; omega⟩
      · go_wp2
        refine wp_region_quiet_below (by kernel_rfl) (by kernel_rfl) ?_
        repeat (quiet_step (fail))
        quiet_step (exact q1 _ _)
        repeat (quiet_step (fail))
        refine wpQuiet_nil ?_
        intro _ hw'
        obtain ⟨⟨dq, osq⟩, hw''⟩ := hw'
        subst hw''
        have hbq := below_regrown wr dq osq
        have lwq := lwr.next hbq
        have hoq := ho.below hbq
        have hcq := gc dq osq
        have hg0 := g0 dq osq
        have hg1 := g1 dq osq
        generalize Go.Sort.grow (redrawn wr dq) osq = wq at *
        clear g0 g1 gc q1 c0 c1 lwr ho hc
        by_cases hneg : hi < 0
        · go_wp2_with fail
          refine (put_any out lo B d wq hoq (by omega)).mono ?_
          rintro e w2 ⟨B2, d2, rfl, ho2, hb2, hf2⟩
          have lw2 := lwq.next hb2
          rw [if_neg (by omega), if_pos hneg] at HN
          rw [HN.out] at HS hlen
          go_wp2
          exact ⟨⟨k + 1, _, B2, d2, by omega, by go_num, rfl, ho2, fun ad e => by have := hf2 ad e; have := lwq.size; omega, by omega, HS, lw2⟩, by simp [intOf]; omega⟩
        · rw [if_neg (by omega), if_neg (by omega)] at HN
          rw [HN.out] at HS hlen
          go_wp2
          exact ⟨⟨k + 1, out, B, d, by omega, by go_num, rfl, hoq, hof, by omega, HS, lwq⟩, by simp [intOf]; omega⟩
    · obtain rfl : k = l.length := by omega
      have hh' := hh.out
      rw [List.drop_length, List.foldl_nil] at hh'
      subst hh'
      go_wp2
      go_ret
      exact ⟨B, d, rfl, ho, lwr.ext, hof⟩

set_option maxHeartbeats 1000000 in
theorem rsmall_any (lo hi : Int) (l : List Int) (A : Option Addr) (c : Nat) (w : World) (hsc : Sc lo hi) (hs : Sl w A c (ic .u8 l)) (hl : l.length ≤ 150) (hb : ∀ x ∈ l, 0 ≤ x ∧ x ≤ 255) :
    Calls Try.prog 21 #[.agg #[.int .i64 lo, .int .i64 hi], .slice A l.length c] w (RetI ((smallSt lo hi l).counts lo) w) := by
  have hbx : (w.alloc (.cells #[.int .i64 lo, .int .i64 hi] 28)).heap[w.heap.size]? = some (.cells #[.int .i64 lo, .int .i64 hi] 28) := heap_alloc_new w _
  have hb0 : Below w.heap.size w (w.alloc (.cells #[.int .i64 lo, .int .i64 hi] 28)) := (Below.refl _ w).alloc (Nat.le_refl _) _
  have lw0 : Lw w (w.alloc (.cells #[.int .i64 lo, .int .i64 hi] 28)) w.heap.size lo hi := ⟨hbx, hb0, Nat.le_refl _⟩
  clear hbx hb0
  go_enter Try.func21, Try.ntmps21
  go_wp2
  go_loopw [5, 6] (fun o i wr => ∃ (k : Nat) (B : Option Addr) (d : Nat), k ≤ l.length ∧ i = .int .i64 k ∧ o = .slice B ((smallSt lo hi (l.take k)).counts lo).length d ∧ Sl wr B d (ic .i64 ((smallSt lo hi (l.take k)).counts lo)) ∧ (∀ ad, B = some ad → w.heap.size ≤ ad.block) ∧ Lw w wr w.heap.size lo hi) (fun _ i _ => l.length - (intOf i).toNat)
  case atStart => exact ⟨0, none, 0, by omega, rfl, by simp [smallSt, St.counts, St.new], by simpa [smallSt, St.counts, St.new, ic] using Sl.none_ _, fun _ e => (by cases e), lw0⟩
  case round =>
    clear lw0
    obtain ⟨k, B, d, hk, rfl, rfl, ho, hof, lwr⟩ := hrel
    obtain ⟨c0, c1⟩ := lwr.cells
    by_cases hlt : k < l.length
    · obtain ⟨ad, rfl, hc⟩ := (hs.below lwr.ext).num hlt
      have hx := hb _ (getD_mem hlt)
      have hsn := smallSt_snoc lo hi (l.take k) (l.getD k 0)
      rw [← take_snocI l k hlt] at hsn
      have hsane := smallSt_sane lo hi (l.take k)
      rw [List.length_take, Nat.min_eq_left hk] at hsane
      have hgood := small_good hsc (l.take k)
      have hcl := counts_length (lo := lo) hsane (by omega)
      have hcb := counts_bound hsc hgood
      have e1 := begin_put hsc hgood
      have e2 := (next_facts hsc hgood).2
      generalize smallSt lo hi (l.take k) = s at *
      generalize l.getD k 0 = x at *
      have HSN := Lib.hid hsn
      have E1 := Lib.hid e1
      have E2 := Lib.hid e2
      have HCB := Lib.hid hcb
      clear hsn e1 e2 hcb
      generalize hL : s.counts lo = L at *
      by_cases h3 : x % 3 = 0
      · have e3 : (x % 3 == 0) = true := by simpa using h3
        go_wp2_with fail
        refine (put_any L 1 B d wr ho (by omega)).mono ?_
        rintro e w2 ⟨B2, d2, rfl, ho2, hb2, hf2⟩
        have lw2 := lwr.next hb2
        go_wp2
        rw [if_pos h3] at HSN
        rw [E1.out, ← HSN.out] at ho2 ⊢
        exact ⟨⟨k + 1, B2, d2, by omega, by go_num, rfl, ho2, fun ad e => by have := hf2 ad e; have := lwr.size; omega, lw2⟩, by simp [intOf]; omega⟩
      · have e3 : (x % 3 == 0) = false := by simpa using h3
        go_wp2_with fail
        refine (rnext_any lo hi L B d wr hsc ho (by omega) HCB.out).mono ?_
        rintro e w2 ⟨B2, d2, rfl, ho2, hb2, hf2⟩
        have lw2 := lwr.next hb2
        go_wp2
        rw [if_neg h3] at HSN
        rw [E2.out, ← HSN.out] at ho2 ⊢
        exact ⟨⟨k + 1, B2, d2, by omega, by go_num, rfl, ho2, fun ad e => by have := hf2 ad e; have := lwr.size; omega, lw2⟩, by simp [intOf]; omega⟩
    · obtain rfl : k = l.length := by omega
      rw [List.take_length] at ho ⊢
      go_wp2
      go_ret
      exact ⟨B, d, rfl, ho, lwr.ext, hof⟩
end Go.Proofs.Ytmfmniecoaihhaa
