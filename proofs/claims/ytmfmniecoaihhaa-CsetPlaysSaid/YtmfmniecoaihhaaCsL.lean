/- The walks of layer 9's small functions: awake, Scope, small, Same. -/
import Derived.Test.YtmfmniecoaihhaaCsM
import Derived.Test.YtmfmniecoaihhaaCsK
namespace Go.Proofs.Ytmfmniecoaihhaa
open Go.RowKit

/-- Numbers as cells. -/
def ic (k : IntKind) (l : List Int) : List Value := l.map (Value.int k)
theorem ic_length (k : IntKind) (l : List Int) : (ic k l).length = l.length := by simp [ic]
theorem ic_get (k : IntKind) (l : List Int) (j : Nat) (h : j < (ic k l).length) : (ic k l)[j] = .int k (l.getD j 0) := by
  have h' : j < l.length := by simpa [ic] using h
  simp [ic, List.getD, List.getElem?_eq_getElem h']
theorem Sl.num {k : IntKind} {w : World} {A : Option Addr} {c : Nat} {l : List Int} (h : Sl w A c (ic k l)) {j : Nat} (hj : j < l.length) : ∃ ad, A = some ad ∧ w.cell? (ad.add j) = some (.int k (l.getD j 0)) := by
  obtain ⟨ad, e, hc⟩ := h.at_ (k := j) (by rw [ic_length]; exact hj)
  exact ⟨ad, e, by rw [hc, ic_get]⟩

theorem awake_any (w : World) : Calls Try.prog 8 #[] w fun e w' => e = .returned (.bool true) ∧ Below w.heap.size w w' := by
  have hsc : Sc 1 3 := ⟨by omega, by omega, .inr ⟨by omega, by omega, by omega⟩⟩
  go_enter Try.func8, Try.ntmps8
  go_wp2_with fail
  refine (new_any 1 3 w).mono ?_
  rintro e w1 ⟨g, rfl, h1, hg, hb1⟩
  have hne : ∀ w : World, (binOp .eql 30 (.pointer (some ⟨g, 0, none⟩)) (.pointer none)).run Try.prog w = .ok (.bool false) w := fun _ => by kernel_rfl
  go_wp2_with fail
  refine (begin_any g w.heap.size 1 3 1 St.new w1 hsc h1 (St.sane_new 1 (by omega)) (by omega) (by omega) hg hb1.size).mono ?_
  rintro e w2 ⟨rfl, h2, hb2⟩
  have s2 : (St.begin 1 3 St.new).Sane 2 := (St.sane_new 1 (by omega)).begin (by omega)
  go_wp2_with fail
  refine (len_any g w.heap.size 1 3 2 _ w2 h2 s2 (by omega)).mono ?_
  rintro e w3 ⟨rfl, rfl⟩
  rw [show ((St.begin 1 3 St.new).len : Int) = 1 by decide]
  go_wp2_with fail
  refine (done_any g w.heap.size 1 3 2 _ w2 hsc h2 s2 (by omega)).mono ?_
  rintro e w3 ⟨rfl, hb3⟩
  rw [show (St.begin 1 3 St.new).done 1 = true by decide]
  go_wp2
  go_ret
  exact ⟨rfl, (hb1.trans hb2).trans (hb3.mono (by have := hb1.size; have := hb2.size; omega))⟩

/-- A scope that may be comes back. -/
def RetSc (w : World) (e : Ending) (w' : World) : Prop := ∃ lo hi, e = .returned (.agg #[.int .i64 lo, .int .i64 hi]) ∧ Sc lo hi ∧ Below w.heap.size w w'

set_option maxHeartbeats 400000 in
theorem scope_any (low span : Int) (o : Bool) (w : World) (h0 : 0 ≤ low) (h1 : low ≤ 4294967295) (h2 : 0 ≤ span) (h3 : span ≤ 4294967295) :
    Calls Try.prog 9 #[.int .u32 low, .int .u32 span, .bool o] w (RetSc w) := by
  have hr0 : 0 ≤ low % 2147483647 := by omega
  have hr1 : low % 2147483647 < 2147483647 := by omega
  have fin : ∀ lo hi : Int, Sc lo hi → ∀ o1 o2, RetSc w (.returned (.agg #[.int .i64 lo, .int .i64 hi])) ((w.alloc o1).alloc o2) := fun lo hi h o1 o2 => ⟨lo, hi, rfl, h, ((Below.refl _ w).alloc (Nat.le_refl _) _).alloc (by simp) _⟩
  cases o with
  | true =>
    by_cases k3 : 1 + low % 2147483647 < 2
    · go_enter Try.func9, Try.ntmps9
      go_wp2
      all_goals exact bodyPost_ret (v := .agg #[.int .i64 2, .int .i64 (-1)]) (by simp [results, Try.results9, go_sem]) rfl (fin _ _ ⟨by omega, by omega, .inl ⟨rfl, by omega⟩⟩ _ _)
    · go_enter Try.func9, Try.ntmps9
      go_wp2
      all_goals exact bodyPost_ret (v := .agg #[.int .i64 (1 + low % 2147483647), .int .i64 (-1)]) (by simp [results, Try.results9, go_sem]) rfl (fin _ _ ⟨by omega, by omega, .inl ⟨rfl, by omega⟩⟩ _ _)
  | false =>
    by_cases k1 : 1 + low % 2147483647 + span ≤ 2147483647
    · by_cases k2 : 1 + low % 2147483647 + span < 2
      · go_enter Try.func9, Try.ntmps9
        go_wp2
        all_goals exact bodyPost_ret (v := .agg #[.int .i64 (1 + low % 2147483647), .int .i64 2]) (by simp [results, Try.results9, go_sem]) rfl (fin _ _ ⟨by omega, by omega, .inr ⟨by omega, by omega, by omega⟩⟩ _ _)
      · go_enter Try.func9, Try.ntmps9
        go_wp2
        all_goals exact bodyPost_ret (v := .agg #[.int .i64 (1 + low % 2147483647), .int .i64 (1 + low % 2147483647 + span)]) (by simp [results, Try.results9, go_sem]) rfl (fin _ _ ⟨by omega, by omega, .inr ⟨by omega, by omega, by omega⟩⟩ _ _)
    · go_enter Try.func9, Try.ntmps9
      go_wp2
      all_goals exact bodyPost_ret (v := .agg #[.int .i64 (1 + low % 2147483647), .int .i64 2147483647]) (by simp [results, Try.results9, go_sem]) rfl (fin _ _ ⟨by omega, by omega, .inr ⟨by omega, by omega, by omega⟩⟩ _ _)

/-- What small calls make. -/
def smallSt (lo hi : Int) (l : List Int) : St := l.foldl (fun s x => if x % 3 = 0 then s.begin lo hi else s.next lo hi) St.new
theorem smallSt_snoc (lo hi : Int) (l : List Int) (x : Int) : smallSt lo hi (l ++ [x]) = if x % 3 = 0 then (smallSt lo hi l).begin lo hi else (smallSt lo hi l).next lo hi := by simp [smallSt]
theorem smallSt_sane (lo hi : Int) (l : List Int) : (smallSt lo hi l).Sane (1 + l.length) := by
  suffices h : ∀ l : List Int, (smallSt lo hi l.reverse).Sane (1 + l.length) by simpa using h l.reverse
  intro l
  induction l with
  | nil => exact St.sane_new _ (by simp)
  | cons x l ih =>
    rw [List.reverse_cons, smallSt_snoc]
    rw [List.length_cons]
    split
    · have := ih.begin (lo := lo) (hi := hi) (by omega)
      rw [show (1 + ((l.length + 1 : Nat) : Int)) = 1 + l.length + 1 by omega]
      exact this
    · have := ih.next (lo := lo) (hi := hi)
      rw [show (1 + ((l.length + 1 : Nat) : Int)) = 1 + l.length + 1 by omega]
      exact this
theorem take_snocI (l : List Int) (k : Nat) (h : k < l.length) : l.take (k + 1) = l.take k ++ [l.getD k 0] := by
  rw [List.take_succ_eq_append_getElem h]
  simp [List.getD, List.getElem?_eq_getElem h]

set_option maxHeartbeats 800000 in
theorem small_any (lo hi : Int) (l : List Int) (A : Option Addr) (c : Nat) (w : World) (hsc : Sc lo hi) (hs : Sl w A c (ic .u8 l)) (hl : l.length ≤ 150) (hb : ∀ x ∈ l, 0 ≤ x ∧ x ≤ 255) :
    Calls Try.prog 18 #[.agg #[.int .i64 lo, .int .i64 hi], .slice A l.length c] w fun e w' => ∃ g, e = .returned (.pointer (some ⟨g, 0, none⟩)) ∧ SetIs w' g w.heap.size lo hi (smallSt lo hi l) ∧ w.heap.size ≤ g ∧ Below w.heap.size w w' := by
  go_enter Try.func18, Try.ntmps18
  go_wp2_with fail
  refine (new_any lo hi _).mono ?_
  rintro e w1 ⟨g, rfl, h1, hg, hb1⟩
  have hb0 : Below w.heap.size w w1 := ((Below.refl _ w).alloc (Nat.le_refl _) _).trans (hb1.mono (by simp))
  have hgw : w.heap.size ≤ g := by simp at hg; omega
  have h1' : SetIs w1 g w.heap.size lo hi St.new := by
    obtain ⟨v, k1, k2⟩ := h1
    exact ⟨v, k1, k2.mono fun k hk => by have := (k2.lt k hk).1; simp at this; omega⟩
  clear h1 hb1 hg
  go_wp2
  go_loopw [6] (fun i wr => ∃ k : Nat, k ≤ l.length ∧ i = .int .i64 k ∧ SetIs wr g w.heap.size lo hi (smallSt lo hi (l.take k)) ∧ Below w.heap.size w wr) (fun i _ => l.length - (intOf i).toNat)
  case atStart => exact ⟨0, by omega, rfl, by simpa [smallSt] using h1', hb0⟩
  case round =>
    clear h1' hb0
    obtain ⟨k, hk, rfl, hst, hbr⟩ := hrel
    by_cases hlt : k < l.length
    · obtain ⟨ad, rfl, hc⟩ := (hs.below hbr).num hlt
      have hx := hb _ (getD_mem hlt)
      have hsn := smallSt_snoc lo hi (l.take k) (l.getD k 0)
      rw [← take_snocI l k hlt] at hsn
      have hsane := smallSt_sane lo hi (l.take k)
      rw [List.length_take, Nat.min_eq_left hk] at hsane
      generalize l.getD k 0 = x at *
      have HSN := Lib.hid hsn
      clear hsn
      by_cases h3 : x % 3 = 0
      · have e3 : (x % 3 == 0) = true := by simpa using h3
        go_wp2_with fail
        refine (begin_any g w.heap.size lo hi _ _ wr hsc hst hsane (by omega) (by omega) hgw hbr.size).mono ?_
        rintro e w2 ⟨rfl, h2, hb2⟩
        go_wp2
        refine ⟨⟨k + 1, by omega, by go_num, ?_, hbr.trans hb2⟩, by simp [intOf]; omega⟩
        rw [HSN.out, if_pos h3]
        exact h2
      · have e3 : (x % 3 == 0) = false := by simpa using h3
        go_wp2_with fail
        refine (next_any g w.heap.size lo hi _ _ wr hsc hst hsane (by omega)).mono ?_
        rintro e w2 ⟨rfl, h2, hf2⟩
        go_wp2
        refine ⟨⟨k + 1, by omega, by go_num, ?_, below_fr hbr hf2 hbr.size hgw⟩, by simp [intOf]; omega⟩
        rw [HSN.out, if_neg h3]
        exact h2
    · obtain rfl : k = l.length := by omega
      rw [List.take_length] at hst
      go_wp2
      go_ret
      exact ⟨g, rfl, hst, hgw, hbr⟩

theorem same_any (l m : List Int) (A B : Option Addr) (c d : Nat) (w : World) (hs : Sl w A c (ic .i64 l)) (ht : Sl w B d (ic .i64 m)) (hl : l.length ≤ 100000) (hm : m.length ≤ 100000) :
    Calls Try.prog 20 #[.slice A l.length c, .slice B m.length d] w fun e w' => e = .returned (.bool (decide (l = m))) ∧ Below w.heap.size w w' := by
  by_cases hlm : l.length = m.length
  · have e1 : ((l.length : Int) != (m.length : Int)) = false := by simp [hlm]
    go_enter Try.func20, Try.ntmps20
    rw [← hlm]
    go_wp2
    go_loopw [5] (fun i wr => ∃ k : Nat, k ≤ l.length ∧ i = .int .i64 k ∧ Hid (∀ j, j < k → l.getD j 0 = m.getD j 0) ∧ ∃ n, wr = w.drewN n) (fun i _ => l.length - (intOf i).toNat)
    case atStart => exact ⟨0, by omega, rfl, Lib.hid (fun j hj => by omega), 0, rfl⟩
    case round =>
      obtain ⟨k, hk, rfl, hj, n, rfl⟩ := hrel
      by_cases hlt : k < l.length
      · obtain ⟨ad, rfl, hc⟩ := hs.num hlt
        obtain ⟨bd, rfl, hc2⟩ := ht.num (j := k) (by omega)
        generalize hx : l.getD k 0 = x at hc
        generalize hy : m.getD k 0 = y at hc2
        have k0 : (0 : Int) ≤ (k : Int) := by omega
        have k1 : (k : Int) < (l.length : Int) := by omega
        by_cases hxy : x = y
        · have e2 : (x != y) = false := by simp [hxy]
          have e3 : (x == y) = true := by simp [hxy]
          go_wp2
          go_quiet (fail)
          go_wp2
          go_roundw
          case rel => exact ⟨k + 1, by omega, by go_num, Lib.hid (fun j hj' => by
            rcases Nat.lt_succ_iff_lt_or_eq.1 hj' with h | rfl
            · exact hj.out j h
            · rw [hx, hy]; exact hxy), _, rfl⟩
          case measure => simp [intOf]; omega
        · have e2 : (x != y) = true := by simp [hxy]
          have e3 : (x == y) = false := by simp [hxy]
          have hne : decide (l = m) = false := by
            simp only [decide_eq_false_iff_not]
            rintro rfl
            exact hxy (hx.symm.trans hy)
          go_wp2
          go_quiet (fail)
          go_wp2
          go_ret
          rw [hne]
          exact ⟨rfl, ⟨rfl, rfl, rfl, Nat.le_refl _, fun _ _ => rfl⟩⟩
      · have he : decide (l = m) = true := by
          simp only [decide_eq_true_eq]
          apply List.ext_getElem hlm
          intro j h1 h2
          have := hj.out j (by omega)
          simpa [List.getD, List.getElem?_eq_getElem h1, List.getElem?_eq_getElem h2] using this
        go_wp2
        go_ret
        rw [he]
        exact ⟨rfl, ⟨rfl, rfl, rfl, Nat.le_refl _, fun _ _ => rfl⟩⟩
  · have e1 : ((l.length : Int) != (m.length : Int)) = true := by simp; omega
    have hne : decide (l = m) = false := by
      simp only [decide_eq_false_iff_not]
      rintro rfl
      exact hlm rfl
    go_enter Try.func20, Try.ntmps20
    go_wp2
    go_ret
    rw [hne]
    exact ⟨rfl, Below.refl _ _⟩
end Go.Proofs.Ytmfmniecoaihhaa
