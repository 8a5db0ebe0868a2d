/- The walk of package request's Decode. -/
import Derived.Test.YtdepbaoechnekaaProg
import Derived.Test.YtdepbaoechnekaaK1
import Derived.Test.YtdepbaoechnekaaReqW
import Derived.Test.YtdepbaoechnekaaReqO
import Derived.Test.YtdepbaoechnekaaReqE
import Derived.WalkKit
import Derived.LoopTactic
import Derived.Lib.ConvBytes
import Derived.Laws.ResultCell
import Derived.BigQuiet
import Derived.Deep.QuietTactic
import Derived.WalkSpells
import Derived.Outline
namespace Go.Proofs.Ytdepbaoechnekaa
open Go.RowKit

/-! What a reader's state gives. -/
abbrev RdSt := List UInt8 × Bool
def rdNum (p : RdSt) (n : Nat) : Nat := num (tk p.1 p.2 n)
def rdNumR (p : RdSt) (n : Nat) : RdSt := (tkRest p.1 p.2 n, tkBad p.1 p.2 n)
def rdText (p : RdSt) : List UInt8 := tk (rdNumR p 2).1 (rdNumR p 2).2 (rdNum p 2)
def rdTextR (p : RdSt) : RdSt := (tkRest (rdNumR p 2).1 (rdNumR p 2).2 (rdNum p 2), tkBad (rdNumR p 2).1 (rdNumR p 2).2 (rdNum p 2))
theorem rdNumR_le (p : RdSt) (n : Nat) : (rdNumR p n).1.length ≤ p.1.length := by
  simp only [rdNumR, tkRest]; split
  · exact Nat.le_refl _
  · rw [List.length_drop]; omega
theorem rdTextR_le (p : RdSt) : (rdTextR p).1.length ≤ p.1.length := by
  have h1 := rdNumR_le p 2
  simp only [rdTextR, tkRest]; split
  · exact h1
  · rw [List.length_drop]; omega
theorem rdText_le (p : RdSt) : (rdText p).length ≤ p.1.length := by
  have h1 := rdNumR_le p 2
  simp only [rdText, tk]; split
  · simp
  · rw [List.length_take]; omega
theorem rdNum_lt (p : RdSt) (n : Nat) : rdNum p n < 256 ^ n := by
  have h1 := num_lt (tk p.1 p.2 n)
  have h2 : (tk p.1 p.2 n).length ≤ n := by unfold tk; split <;> simp <;> omega
  exact Nat.lt_of_lt_of_le h1 (Nat.pow_le_pow_right (by omega) h2)

structure Dec where
  K : Nat
  a : List UInt8
  b : List UInt8
  W : List UInt8
  N : Nat
  e : RdSt
def dec (l : List UInt8) : Dec :=
  let p0 : RdSt := (l, false)
  let p1 := rdNumR p0 1
  let p2 := rdTextR p1
  let p3 := rdTextR p2
  let p4 := rdTextR p3
  { K := rdNum p0 1, a := rdText p1, b := rdText p2, W := rdText p3, N := rdNum p4 4, e := rdNumR p4 4 }
def Dec.ok (d : Dec) : Bool := (!d.e.2 && decide (d.e.1 = [])) && formB d.K d.a.length d.b.length d.W.length d.N

theorem number_p (p : RdSt) (n B g : Nat) (w : World) (hin : InIs w B g p.1 p.2) (hl : p.1.length ≤ 140737488355328) (hn : n ≤ 8) :
    Calls Try.prog 21 #[.pointer (some ⟨g, 0, none⟩), .int .i64 (n : Int)] w fun e w' =>
      e = .returned (.int .u64 (rdNum p n : Nat)) ∧ InIs w' B g (rdNumR p n).1 (rdNumR p n).2 ∧ Fr w.heap.size g w w' := in_number_any p.1 p.2 n B g w hin hl hn
theorem text_p (p : RdSt) (B g : Nat) (w : World) (hin : InIs w B g p.1 p.2) (hl : p.1.length ≤ 140737488355328) :
    Calls Try.prog 22 #[.pointer (some ⟨g, 0, none⟩)] w fun e w' =>
      e = .returned (.string ⟨(rdText p).toArray⟩) ∧ InIs w' B g (rdTextR p).1 (rdTextR p).2 ∧ Fr w.heap.size g w w' := in_text_any p.1 p.2 B g w hin hl

theorem conv_bytes (w : World) (l : List UInt8) (hl : l.length ≤ 9223372036854775807) : ∃ A c w', (convert 9 22 (.string ⟨l.toArray⟩)).run Try.prog w = .ok (.slice A l.length c) w' ∧
    Sl w' A c (byc l) ∧ Below w.heap.size w w' ∧ ∀ ad, A = some ad → w.heap.size ≤ ad.block ∧ ad.block < w'.heap.size := by
  have h := Lib.run_convert_string_bytes (P := Try.prog) w 9 22 5 ⟨l.toArray⟩ Try.underlying9 Try.underlying22 Try.underlying5
  have hsz : (ByteArray.mk l.toArray).size = l.length := by simp [ByteArray.size]
  rw [hsz] at h
  refine ⟨_, _, _, h, ⟨?_, ?_, fun e => (by cases e), ?_⟩, ⟨rfl, rfl, rfl, ?_, ?_⟩, ?_⟩
  · rw [byc_length]; exact grownCap_ge _ _ _ _
  · have := grownCap_le_maxLen w l.length 0 5 (by unfold maxLen; omega)
    unfold maxLen at this
    omega
  · intro ad e j u hu
    injection e with e
    subst e
    have hj : j < l.length := by
      have := (List.getElem?_eq_some_iff.1 hu).1
      rwa [byc_length] at this
    rw [Addr.add_lit, Nat.zero_add, Lib.bytesWorld_cell w _ _ j (by rw [hsz]; exact hj), ← hu]
    simp [byc, List.getD, List.getElem?_eq_getElem hj]
  · rw [Lib.bytesWorld_size]; omega
  · exact fun k hk => Lib.bytesWorld_at_old w _ _ k hk
  · intro ad e
    injection e with e
    subst e
    exact ⟨Nat.le_refl _, by rw [Lib.bytesWorld_size]; exact Nat.lt_succ_self _⟩

theorem bsize (l : List UInt8) : (ByteArray.mk l.toArray).size = l.length := by simp [ByteArray.size]

theorem post_row_tmp {P : Program} {fn : Func} {R : Ending → World → Prop} {a : Act} {w : World} {p u : Tmp} {T t : TypeId} {g : Nat} {cs : Array Value} {fr : Nat × Nat} {d : TypeDesc} {x : Value}
    (hr : fn.results = #[.cell p T, .tmp u]) (hp : a.tmps.getD p undef = .pointer (some ⟨g, 0, none⟩)) (hg : w.heap[g]? = some (.cells cs t fr))
    (hu : P.underlying T = some d) (hd : (match d with | .struct _ | .array _ _ => true | _ => false) = true) (hi : (P.info? T).map (·.size) = some cs.size) (hx : a.tmps.getD u undef = x) (hdf : a.defers = [])
    (hR : R (.returned (.tuple #[.agg cs, x])) w) : bodyPost P fn R .ret a w := by
  refine bodyPost_ret (v := .tuple #[.agg cs, x]) ?_ hdf hR
  rw [results_cell_tmp hr, hp]
  simp [asAddr, run_loadVar_row w g t T cs fr d hg hu hd hi, hx]

theorem blk_set5 {w : World} {g : Nat} {a b c d e a' b' c' d' e' : Value} {t : TypeId} (h : w.heap[g]? = some (.cells #[a, b, c, d, e] t)) :
    (((((w.setCell ⟨g, 0, none⟩ a').setCell ⟨g, 1, none⟩ b').setCell ⟨g, 2, none⟩ c').setCell ⟨g, 3, none⟩ d').setCell ⟨g, 4, none⟩ e').heap[g]? = some (.cells #[a', b', c', d', e'] t) := by
  have h1 := blk_set h 0 a'
  have h2 := blk_set h1 1 b'
  have h3 := blk_set h2 2 c'
  have h4 := blk_set h3 3 d'
  exact blk_set h4 4 e'

/-- What stands between two calls of a reader: the result's box, the request's box, all that was there. -/
structure DecSt (w : World) (B g : Nat) (wi : World) (p : RdSt) : Prop where
  res : wi.heap[w.heap.size]? = some (.cells #[.int .i64 0, .string ⟨#[]⟩, .string ⟨#[]⟩, .slice none 0 0, .int .i64 0] 24)
  inp : InIs wi B g p.1 p.2
  ext : Below w.heap.size w wi
  lt : w.heap.size + 2 ≤ wi.heap.size
theorem DecSt.next {w : World} {B g : Nat} {wi wj : World} {p q : RdSt} (h : DecSt w B g wi p) (hi : InIs wj B g q.1 q.2) (hf : Fr wi.heap.size g wi wj) (hg : g = w.heap.size + 1) : DecSt w B g wj q := by
  have := h.lt
  have := hf.size
  exact ⟨(hf.block _ (by omega) (by omega)).trans h.res, hi, h.ext.trans (hf.below (by omega) (by omega)), by omega⟩

theorem DecSt.below {w : World} {B g : Nat} {wi wj : World} {p : RdSt} (h : DecSt w B g wi p) (hb : Below wi.heap.size wi wj) : DecSt w B g wj p :=
  ⟨blk_below h.res hb, h.inp.below hb, h.ext.trans (hb.mono (by have := h.lt; omega)), by have := h.lt; have := hb.size; omega⟩
theorem DecSt.alloc {w : World} {B g : Nat} {wi : World} {p : RdSt} (h : DecSt w B g wi p) (o : Obj) : DecSt w B g (wi.alloc o) p := h.below ((Below.refl _ _).alloc (Nat.le_refl _) o)
theorem DecSt.set {w : World} {B g : Nat} {wi : World} {p : RdSt} (h : DecSt w B g wi p) {a : Addr} (h1 : w.heap.size < a.block) (h2 : g ≠ a.block) (h3 : B ≤ a.block) (u : Value) : DecSt w B g (wi.setCell a u) p :=
  ⟨blk_far h.res (by omega) u, h.inp.set h2 h3 u, h.ext.setCell (by omega) u, by have := h.lt; simpa [World.setCell] using this⟩
theorem below_set5 {B : Nat} {a w : World} (h : Below B a w) {g : Nat} (hg : B ≤ g) (x0 x1 x2 x3 x4 : Value) :
    Below B a (((((w.setCell ⟨g, 0, none⟩ x0).setCell ⟨g, 1, none⟩ x1).setCell ⟨g, 2, none⟩ x2).setCell ⟨g, 3, none⟩ x3).setCell ⟨g, 4, none⟩ x4) :=
  ((((h.setCell hg _).setCell hg _).setCell hg _).setCell hg _).setCell hg _
theorem sl_set5 {w : World} {A : Option Addr} {c : Nat} {xs : List Value} (h : Sl w A c xs) {g : Nat} (hg : ∀ ad, A = some ad → ad.block ≠ g) (x0 x1 x2 x3 x4 : Value) :
    Sl (((((w.setCell ⟨g, 0, none⟩ x0).setCell ⟨g, 1, none⟩ x1).setCell ⟨g, 2, none⟩ x2).setCell ⟨g, 3, none⟩ x3).setCell ⟨g, 4, none⟩ x4) A c xs :=
  ((((h.set (fun ad e _ => hg ad e) _).set (fun ad e _ => hg ad e) _).set (fun ad e _ => hg ad e) _).set (fun ad e _ => hg ad e) _).set (fun ad e _ => hg ad e) _
theorem infoQ : (Try.prog.info? 24).map (·.size) = some 5 := by kernel_rfl

set_option maxHeartbeats 2000000 in
theorem decode_any (l : List UInt8) (A : Option Addr) (c : Nat) (w : World) (hs : Sl w A c (byc l)) (hl : l.length ≤ 1000000) :
    Calls Try.prog 10 #[.slice A l.length c] w fun e w' => Below w.heap.size w w' ∧
      (((dec l).ok = true ∧ ∃ A' c', e = .returned (.tuple #[.agg #[.int .i64 ((dec l).K : Nat), .string ⟨(dec l).a.toArray⟩, .string ⟨(dec l).b.toArray⟩, .slice A' (dec l).W.length c', .int .i64 ((dec l).N : Nat)], .int .i64 0]) ∧ Sl w' A' c' (byc (dec l).W)) ∨
       ((dec l).ok = false ∧ e = .returned (.tuple #[.agg #[.int .i64 0, .string ⟨#[]⟩, .string ⟨#[]⟩, .slice none 0 0, .int .i64 0], .int .i64 6]))) := by
  have st0 : DecSt w w.heap.size (w.heap.size + 1) ((w.alloc (.cells #[.int .i64 0, .string ⟨#[]⟩, .string ⟨#[]⟩, .slice none 0 0, .int .i64 0] 24)).alloc (.cells #[.slice A l.length c, .bool false] 54)) (l, false) := by
    refine ⟨?_, ⟨A, c, ?_, (hs.alloc _).alloc _, ?_⟩, ?_, by simp⟩
    · exact blk_alloc (heap_alloc_new w _) _
    · exact heap_alloc2_new w _ _
    · intro ad e hne
      have := hs.lt (by rw [byc_length]; exact List.length_pos_iff.2 hne) ad e
      omega
    · exact ((Below.refl _ w).alloc (Nat.le_refl _) _).alloc (by simp) _
  go_enter Try.func10, Try.ntmps10
  go_wp2_with fail
  refine (number_p (l, false) 1 _ _ _ st0.inp (by show l.length ≤ _; omega) (by omega)).mono ?_
  rintro e w1 ⟨rfl, hi1, hf1⟩
  have st1 := st0.next hi1 hf1 rfl
  clear st0 hi1 hf1
  obtain ⟨k, hk⟩ : ∃ k, k = rdNum (l, false) 1 := ⟨_, rfl⟩
  have hkb : k < 256 := by rw [hk]; exact rdNum_lt _ 1
  obtain ⟨p1, hp1⟩ : ∃ p, p = rdNumR (l, false) 1 := ⟨_, rfl⟩
  have hl1 : p1.1.length ≤ 1000000 := by rw [hp1]; exact Nat.le_trans (rdNumR_le _ _) hl
  rw [← hp1] at st1
  rw [← hk]
  have Hk := Lib.hid hk
  have H1 := Lib.hid hp1
  clear hk hp1
  go_wp2_with fail
  refine (text_p p1 _ _ _ st1.inp (by omega)).mono ?_
  rintro e w2 ⟨rfl, hi2, hf2⟩
  have st2 := st1.next hi2 hf2 rfl
  clear st1 hi2 hf2
  obtain ⟨a, ha⟩ : ∃ a, a = rdText p1 := ⟨_, rfl⟩
  obtain ⟨p2, hp2⟩ : ∃ p, p = rdTextR p1 := ⟨_, rfl⟩
  have hl2 : p2.1.length ≤ 1000000 := by rw [hp2]; exact Nat.le_trans (rdTextR_le _) hl1
  have hla : a.length ≤ 1000000 := by rw [ha]; exact Nat.le_trans (rdText_le _) hl1
  rw [← hp2] at st2
  rw [← ha]
  have Ha := Lib.hid ha
  have H2 := Lib.hid hp2
  clear ha hp2
  go_wp2_with fail
  refine (text_p p2 _ _ _ st2.inp (by omega)).mono ?_
  rintro e w3 ⟨rfl, hi3, hf3⟩
  have st3 := st2.next hi3 hf3 rfl
  clear st2 hi3 hf3
  obtain ⟨b, hb⟩ : ∃ b, b = rdText p2 := ⟨_, rfl⟩
  obtain ⟨p3, hp3⟩ : ∃ p, p = rdTextR p2 := ⟨_, rfl⟩
  have hl3 : p3.1.length ≤ 1000000 := by rw [hp3]; exact Nat.le_trans (rdTextR_le _) hl2
  have hlb : b.length ≤ 1000000 := by rw [hb]; exact Nat.le_trans (rdText_le _) hl2
  rw [← hp3] at st3
  rw [← hb]
  have Hb := Lib.hid hb
  have H3 := Lib.hid hp3
  clear hb hp3
  have st3a := st3.alloc (.cells #[.int .i64 k, .string ⟨a.toArray⟩, .string ⟨b.toArray⟩, .slice none 0 0, .int .i64 0] 24)
  have hQ3 := heap_alloc_new w3 (.cells #[.int .i64 k, .string ⟨a.toArray⟩, .string ⟨b.toArray⟩, .slice none 0 0, .int .i64 0] 24)
  have hQlt := st3.lt
  have hQ3s : w3.heap.size < (w3.alloc (.cells #[.int .i64 k, .string ⟨a.toArray⟩, .string ⟨b.toArray⟩, .slice none 0 0, .int .i64 0] 24)).heap.size := by simp
  clear st3
  go_wp2_with fail
  refine (text_p p3 _ _ _ st3a.inp (by omega)).mono ?_
  rintro e w4 ⟨rfl, hi4, hf4⟩
  have st4 := st3a.next hi4 hf4 rfl
  have hQ4 := (hf4.block _ hQ3s (by omega)).trans hQ3
  have hQ4s := blk_lt hQ4
  clear st3a hi4 hf4 hQ3 hQ3s
  obtain ⟨W, hW⟩ : ∃ b, b = rdText p3 := ⟨_, rfl⟩
  obtain ⟨p4, hp4⟩ : ∃ p, p = rdTextR p3 := ⟨_, rfl⟩
  have hl4 : p4.1.length ≤ 1000000 := by rw [hp4]; exact Nat.le_trans (rdTextR_le _) hl3
  have hlW : W.length ≤ 1000000 := by rw [hW]; exact Nat.le_trans (rdText_le _) hl3
  rw [← hp4] at st4
  rw [← hW]
  have HW := Lib.hid hW
  have H4 := Lib.hid hp4
  clear hW hp4
  obtain ⟨A5, c5, w5, hcv, hs5, hb5, hf5⟩ := conv_bytes w4 W (by omega)
  have st5 := st4.below hb5
  have hQ5 := blk_below hQ4 hb5
  have hf5' : ∀ ad, A5 = some ad → w3.heap.size < ad.block ∧ ad.block < w5.heap.size := fun ad e => by have := hf5 ad e; omega
  have qf := blk_frozen hQ5 3
  have qc := blk_cell hQ5 3
  have st5s := st5.set (a := ⟨w3.heap.size, 3, none⟩) (by show w.heap.size < w3.heap.size; omega) (by show w.heap.size + 1 ≠ w3.heap.size; omega) (by show w.heap.size ≤ w3.heap.size; omega) (.slice A5 W.length c5)
  have hQ5s := blk_set hQ5 3 (.slice A5 W.length c5)
  have hs5s := hs5.set (p := ⟨w3.heap.size, 3, none⟩) (fun ad e _ => by have := hf5' ad e; show ad.block ≠ w3.heap.size; omega) (.slice A5 W.length c5)
  have hsz5 : (w5.setCell ⟨w3.heap.size, 3, none⟩ (.slice A5 W.length c5)).heap.size = w5.heap.size := by simp [World.setCell]
  clear hQ4 hQ4s hb5 hf5 st4 st5 hs5
  go_wp2_with fail
  refine (number_p p4 4 _ _ _ st5s.inp (by omega) (by omega)).mono ?_
  rintro e w6 ⟨rfl, hi6, hf6⟩
  have st6 := st5s.next hi6 hf6 rfl
  have hQ6 := (hf6.block _ (by rw [hsz5]; exact blk_lt hQ5) (by omega)).trans hQ5s
  have hs6 := hf6.sl hs5s (fun ad e => by have := hf5' ad e; rw [hsz5]; omega)
  have hsz6 := hf6.size
  rw [hsz5] at hsz6
  clear hi6 hf6 st5s hs5s hQ5s hQ5 hcv qf qc hsz5
  obtain ⟨m, hm⟩ : ∃ b, b = rdNum p4 4 := ⟨_, rfl⟩
  obtain ⟨p5, hp5⟩ : ∃ p, p = rdNumR p4 4 := ⟨_, rfl⟩
  have hmb : m < 4294967296 := by rw [hm]; exact rdNum_lt _ 4
  rw [← hp5] at st6
  rw [← hm]
  have Hm := Lib.hid hm
  have H5 := Lib.hid hp5
  clear hm hp5
  have qf := blk_frozen hQ6 4
  have qc := blk_cell hQ6 4
  have st7 := st6.set (a := ⟨w3.heap.size, 4, none⟩) (by show w.heap.size < w3.heap.size; omega) (by show w.heap.size + 1 ≠ w3.heap.size; omega) (by show w.heap.size ≤ w3.heap.size; omega) (.int .i64 m)
  have hQ7 := blk_set hQ6 4 (.int .i64 m)
  have hs7 := hs6.set (p := ⟨w3.heap.size, 4, none⟩) (fun ad e _ => by have := hf5' ad e; show ad.block ≠ w3.heap.size; omega) (.int .i64 m)
  clear st6 hs6 hQ6
  have hd : dec l = ⟨k, a, b, W, m, p5⟩ := by
    rw [Hm.out, H5.out, HW.out, H4.out, Hb.out, H3.out, Ha.out, H2.out, H1.out, Hk.out]; rfl
  have Hd := Lib.hid hd
  clear hd
  go_wp2_with fail
  refine (over_any p5.1 p5.2 _ _ _ st7.inp).mono ?_
  rintro e w7 ⟨rfl, rfl⟩
  have hQ7' : (w6.setCell ⟨w3.heap.size, 4, none⟩ (.int .i64 m)).heap[w3.heap.size]? = some (.cells #[.int .i64 k, .string ⟨a.toArray⟩, .string ⟨b.toArray⟩, .slice A5 W.length c5, .int .i64 m] 24) := hQ7
  clear hQ7 qf qc
  generalize w6.setCell ⟨w3.heap.size, 4, none⟩ (.int .i64 m) = w7 at st7 hQ7' hs7 ⊢
  have hlt7 := st7.lt
  cases hov : (!p5.2 && decide (p5.1 = [])) with
  | false =>
    obtain ⟨r0, r1, r2, r3, r4⟩ := q_cells st7.res
    have g0 := blk_frozen st7.res 0
    have g1 := blk_frozen st7.res 1
    have g2 := blk_frozen st7.res 2
    have g3 := blk_frozen st7.res 3
    have g4 := blk_frozen st7.res 4
    go_wp2
    refine post_row_tmp (p := 2) (u := 3) rfl rfl (blk_set5 st7.res) Try.underlying24 rfl infoQ rfl rfl ?_
    refine ⟨below_set5 st7.ext (Nat.le_refl _) _ _ _ _ _, .inr ⟨?_, rfl⟩⟩
    rw [Hd.out]
    simp only [Dec.ok, hov, Bool.false_and]
  | true =>
    obtain ⟨q0, q1, q2, q3, q4⟩ := q_cells hQ7'
    go_wp2_with fail
    refine (formed_any k m ⟨a.toArray⟩ ⟨b.toArray⟩ A5 W.length c5 _).mono ?_
    rintro e w8 ⟨rfl, hb8⟩
    rw [bsize, bsize]
    have st8 := st7.below hb8
    have hs8 := hs7.below hb8
    have hQ8 := blk_below hQ7' hb8
    clear st7 hs7 hQ7' hb8 q0 q1 q2 q3 q4
    obtain ⟨q0, q1, q2, q3, q4⟩ := q_cells hQ8
    obtain ⟨r0, r1, r2, r3, r4⟩ := q_cells st8.res
    have g0 := blk_frozen st8.res 0
    have g1 := blk_frozen st8.res 1
    have g2 := blk_frozen st8.res 2
    have g3 := blk_frozen st8.res 3
    have g4 := blk_frozen st8.res 4
    cases hfo : formB k a.length b.length W.length m with
    | false =>
      go_wp2
      refine post_row_tmp (p := 2) (u := 3) rfl rfl (blk_set5 st8.res) Try.underlying24 rfl infoQ rfl rfl ?_
      refine ⟨below_set5 st8.ext (Nat.le_refl _) _ _ _ _ _, .inr ⟨?_, rfl⟩⟩
      rw [Hd.out]
      simp only [Dec.ok, hov, hfo, Bool.and_false]
    | true =>
      go_wp2
      refine post_row_tmp (p := 2) (u := 3) rfl rfl (blk_set5 st8.res) Try.underlying24 rfl infoQ rfl rfl ?_
      refine ⟨below_set5 st8.ext (Nat.le_refl _) _ _ _ _ _, .inl ⟨?_, A5, c5, ?_, ?_⟩⟩
      · rw [Hd.out]
        simp only [Dec.ok, hov, hfo, Bool.and_true]
      · rw [Hd.out]; rfl
      · rw [Hd.out]
        exact sl_set5 hs8 (fun ad e => by have := hf5' ad e; omega) _ _ _ _ _
end Go.Proofs.Ytdepbaoechnekaa
