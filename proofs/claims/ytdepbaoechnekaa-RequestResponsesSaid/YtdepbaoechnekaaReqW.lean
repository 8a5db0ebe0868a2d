/- The walks of package request's reader. -/
import Derived.Test.YtdepbaoechnekaaProg
import Derived.Test.YtdepbaoechnekaaK1
import Derived.WalkKit
import Derived.LoopTactic
import Derived.Laws.IdiomStrings
import Derived.Laws.BytesArg
import Derived.Laws.Bits64b
import Derived.BigQuiet
import Derived.Deep.QuietTactic
import Derived.WalkSpells
import Derived.Outline
namespace Go.Proofs.Ytdepbaoechnekaa
open Go.RowKit

theorem info8 : (Try.prog.info? 5).map (fun i => (i.zero, i.size, i.bytes)) = some (some (.int .u8 0), 1, 1) := by kernel_rfl

/-- Numbers as cells. -/
def byc (l : List UInt8) : List Value := l.map fun b => Value.int .u8 (b.toNat : Int)
theorem byc_length (l : List UInt8) : (byc l).length = l.length := by simp [byc]
theorem byc_one (l : List UInt8) : ∀ u ∈ byc l, u.oneCell' = true := by
  intro u hu
  simp only [byc, List.mem_map] at hu
  obtain ⟨b, _, rfl⟩ := hu
  rfl
theorem byc_append (l m : List UInt8) : byc (l ++ m) = byc l ++ byc m := by simp [byc]
theorem byc_take (l : List UInt8) (n : Nat) : byc (l.take n) = (byc l).take n := by simp [byc, List.map_take]
theorem byc_drop (l : List UInt8) (n : Nat) : byc (l.drop n) = (byc l).drop n := by simp [byc, List.map_drop]
theorem byc_get (l : List UInt8) (k : Nat) (h : k < (byc l).length) : (byc l)[k] = .int .u8 (((l.getD k 0).toNat : Nat) : Int) := by
  have h' : k < l.length := by simpa [byc] using h
  simp [byc, List.getD, List.getElem?_eq_getElem h']

theorem byc_ne {l : List UInt8} (h : byc l ≠ []) : l ≠ [] := by
  rintro rfl
  exact h rfl

/-- The end of a call that makes a slice. -/
def RetS (l : List UInt8) (w : World) (e : Ending) (w' : World) : Prop :=
  ∃ A c, e = .returned (.slice A l.length c) ∧ Sl w' A c (byc l) ∧ Below w.heap.size w w' ∧ ∀ ad, A = some ad → w.heap.size ≤ ad.block

theorem clone_any (l : List UInt8) (A : Option Addr) (c : Nat) (w : World) (hs : Sl w A c (byc l)) (hn : l.length ≤ 140737488355328) :
    Calls Try.prog 28 #[.slice A l.length c] w (RetS l w) := by
  cases A with
  | none =>
    have h0 := hs.nil rfl
    have h1 := hs.cap
    rw [byc_length] at h1
    have hl : l = [] := List.eq_nil_of_length_eq_zero (by omega)
    subst h0 hl
    have he : ∀ w : World, (binOp .eql 22 (.slice none 0 0) (.slice none 0 0)).run Try.prog w = .ok (.bool true) w := fun _ => by kernel_rfl
    go_enter Try.func28, Try.ntmps28
    go_wp2
    go_ret
    exact ⟨none, 0, rfl, Sl.none_ w, Below.refl _ w, fun _ e => by cases e⟩
  | some ad =>
    obtain ⟨i0, hi, hz0, hz1, hz2⟩ := info_parts info8
    have he : ∀ w : World, (binOp .eql 22 (.slice (some ad) l.length c) (.slice none 0 0)).run Try.prog w = .ok (.bool false) w := fun _ => by kernel_rfl
    go_enter Try.func28, Try.ntmps28
    have hown0 : Ow (w.alloc (.cells #[] 5)) w.heap.size 5 (.slice (some ⟨w.heap.size, 0, none⟩) 0 0) [] :=
      World.ownsRow_lit w #[] 0 (Nat.le_refl _) (Nat.zero_le _) rfl
    have hnew : Below w.heap.size w (w.alloc (.cells #[] 5)) := (Below.refl _ w).alloc (Nat.le_refl _) _
    go_wp2_with (at_builtin; refine wpList_append_sl _ rfl _ _ 22 rfl w.heap.size 5 i0 (.int .u8 0) 1 Try.underlying22 hi hz0 hz1 hz2 rfl (.slice (some ⟨w.heap.size, 0, none⟩) 0 0) [] rfl hown0 (some ad) c (byc l) (by rw [byc_length]; rfl) (hs.below hnew) (byc_one l) (by rw [byc_length]; simp; omega) (by omega) (by simp) ?_; intro v' w' hown hgr hblk; go_wp2)
    go_ret
    obtain ⟨A', c', rfl, hsl, hbk⟩ := hown.sl
    refine ⟨A', c', ?_, ?_, ?_, ?_⟩
    · simp [byc_length]
    · simpa using hsl
    · exact hnew.grown hgr (by simp) (fun k e => by simp [Value.ownBlock] at e; omega)
    · exact fun ad e => (hbk ad e).1

/-- The reader's block. -/
def InIs (w : World) (B g : Nat) (l : List UInt8) (bad : Bool) : Prop :=
  ∃ A c, w.heap[g]? = some (.cells #[.slice A l.length c, .bool bad] 54) ∧ Sl w A c (byc l) ∧ ∀ ad, A = some ad → l ≠ [] → ad.block < B ∧ ad.block ≠ g
namespace InIs
variable {w w' : World} {B g : Nat} {l : List UInt8} {bad : Bool}
theorem below (h : InIs w B g l bad) (hb : Below w.heap.size w w') : InIs w' B g l bad := by
  obtain ⟨A, c, h1, h2, h3⟩ := h
  exact ⟨A, c, blk_below h1 hb, h2.below hb, h3⟩
theorem set (h : InIs w B g l bad) {p : Addr} (hk : g ≠ p.block) (hB : B ≤ p.block) (u : Value) : InIs (w.setCell p u) B g l bad := by
  obtain ⟨A, c, h1, h2, h3⟩ := h
  exact ⟨A, c, blk_far h1 hk u, h2.set (fun ad e hx => by have := h3 ad e (byc_ne hx); omega) u, h3⟩
theorem lt (h : InIs w B g l bad) : g < w.heap.size := by
  obtain ⟨A, c, h1, h2, h3⟩ := h
  exact blk_lt h1
end InIs

/-- Whether taking n fails. -/
def tkBad (l : List UInt8) (bad : Bool) (n : Nat) : Bool := bad || decide (l.length < n)
def tk (l : List UInt8) (bad : Bool) (n : Nat) : List UInt8 := if tkBad l bad n then [] else l.take n
def tkRest (l : List UInt8) (bad : Bool) (n : Nat) : List UInt8 := if tkBad l bad n then l else l.drop n

theorem in_cells {w : World} {g : Nat} {a b : Value} {t : TypeId} (h : w.heap[g]? = some (.cells #[a, b] t)) : w.cell? ⟨g, 0, none⟩ = some a ∧ w.cell? ⟨g, 1, none⟩ = some b ∧ w.frozen? ⟨g, 0, none⟩ = false ∧ w.frozen? ⟨g, 1, none⟩ = false :=
  ⟨blk_cell h 0, blk_cell h 1, blk_frozen h 0, blk_frozen h 1⟩

set_option maxHeartbeats 400000 in
theorem take_any (l : List UInt8) (bad : Bool) (n B g : Nat) (w : World) (hin : InIs w B g l bad) (hl : l.length ≤ 140737488355328) (hn : n ≤ 140737488355328) :
    Calls Try.prog 27 #[.pointer (some ⟨g, 0, none⟩), .int .i64 (n : Int)] w fun e w' =>
      ∃ A c, e = .returned (.slice A (tk l bad n).length c) ∧ Sl w' A c (byc (tk l bad n)) ∧ InIs w' B g (tkRest l bad n) (tkBad l bad n) ∧ Fr w.heap.size g w w' := by
  obtain ⟨A, c, hblk, hs, hne⟩ := hin
  obtain ⟨c0, c1, f0, f1⟩ := in_cells hblk
  have hcap := hs.cap
  rw [byc_length] at hcap
  have hmax := hs.max
  cases hb : tkBad l bad n with
  | true =>
    have hb' : bad = true ∨ l.length < n := by simpa [tkBad] using hb
    have fin : ∃ A' c', Ending.returned (.slice none 0 0) = .returned (.slice A' (tk l bad n).length c') ∧ Sl (w.setCell ⟨g, 1, none⟩ (.bool true)) A' c' (byc (tk l bad n)) ∧ InIs (w.setCell ⟨g, 1, none⟩ (.bool true)) B g (tkRest l bad n) true ∧ Fr w.heap.size g w (w.setCell ⟨g, 1, none⟩ (.bool true)) := by
      simp only [tk, tkRest, hb, if_true]
      refine ⟨none, 0, rfl, Sl.none_ _, ⟨A, c, ?_, ?_, hne⟩, (Fr.refl w.heap.size g w).setCell (p := ⟨g, 1, none⟩) (.inr rfl) _⟩
      · exact blk_set hblk 1 _
      · exact hs.set (fun ad e hx => (hne ad e (byc_ne hx)).2) _
    cases bad with
    | true =>
      go_enter Try.func27, Try.ntmps27
      go_wp2
      go_ret
      exact fin
    | false =>
      have hlt : l.length < n := by simpa using hb'
      go_enter Try.func27, Try.ntmps27
      go_wp2
      go_ret
      exact fin
  | false =>
    have hb' : bad = false ∧ n ≤ l.length := by simpa [tkBad] using hb
    obtain ⟨rfl, hle⟩ := hb'
    go_enter Try.func27, Try.ntmps27
    have hst : Sl w A c (byc (l.take n)) := by rw [byc_take]; exact hs.take n
    have hlt : (l.take n).length = n := by rw [List.length_take]; omega
    go_wp2_with fail
    have hcl := clone_any (l.take n) A c w hst (by omega)
    rw [hlt] at hcl
    refine hcl.mono ?_
    rintro e w1 ⟨A1, c1', rfl, hs1, hb1, hf1⟩
    rw [hlt]
    have hblk1 := blk_below hblk hb1
    clear c0 c1 f0 f1 hcl
    obtain ⟨c0, c1, f0, f1⟩ := in_cells hblk1
    have hg := blk_lt hblk
    have hne1 : ∀ ad, A1 = some ad → byc (l.take n) ≠ [] → ad.block ≠ g := fun ad e _ => by have := hf1 ad e; omega
    have fin : ∃ A' c', Ending.returned (.slice A1 n c1') = .returned (.slice A' (tk l false n).length c') ∧ Sl (w1.setCell ⟨g, 0, none⟩ (.slice (if c = n then A else A.map (·.add n)) (l.length - n) (c - n))) A' c' (byc (tk l false n)) ∧
        InIs (w1.setCell ⟨g, 0, none⟩ (.slice (if c = n then A else A.map (·.add n)) (l.length - n) (c - n))) B g (tkRest l false n) false ∧ Fr w.heap.size g w (w1.setCell ⟨g, 0, none⟩ (.slice (if c = n then A else A.map (·.add n)) (l.length - n) (c - n))) := by
      simp only [tk, tkRest, hb, Bool.false_eq_true, if_false]
      have hne2 : ∀ ad, (if c = n then A else A.map (·.add n)) = some ad → l.drop n ≠ [] → ad.block < B ∧ ad.block ≠ g := fun ad e hd => by
        have hd' : l ≠ [] := by
          rintro rfl
          simp at hd
        split at e
        · exact hne ad e hd'
        · cases A with
          | none => cases e
          | some a => cases e; rw [addr_block]; exact hne a rfl hd'
      refine ⟨A1, c1', by rw [hlt], hs1.set hne1 _, ⟨(if c = n then A else A.map (·.add n)), c - n, ?_, ?_, hne2⟩, (Fr.of_below hb1 (Nat.le_refl _)).setCell (p := ⟨g, 0, none⟩) (.inr rfl) _⟩
      · have := blk_set hblk1 0 (.slice (if c = n then A else A.map (·.add n)) (l.length - n) (c - n))
        rw [List.length_drop]
        exact this
      · have := (hs.below hb1).drop (k := n) (by rw [byc_length]; exact hle)
        rw [← byc_drop] at this
        exact this.set (fun ad e hx => (hne2 ad e (byc_ne hx)).2) _
    by_cases hcn : c = n
    · rw [if_pos hcn] at fin
      subst hcn
      rw [Nat.sub_self, show l.length - c = 0 by omega] at fin
      go_wp2
      go_ret
      exact fin
    · rw [if_neg hcn] at fin
      go_wp2
      go_ret
      exact fin

/-- A number of bytes. -/
def num (l : List UInt8) : Nat := l.foldl (fun a b => a * 256 + b.toNat) 0
theorem num_snoc (l : List UInt8) (b : UInt8) : num (l ++ [b]) = num l * 256 + b.toNat := by simp [num]
theorem num_lt (l : List UInt8) : num l < 256 ^ l.length := by
  suffices h : ∀ l : List UInt8, num l.reverse < 256 ^ l.length by simpa using h l.reverse
  intro l
  induction l with
  | nil => simp [num]
  | cons b l ih =>
    rw [List.reverse_cons, num_snoc, List.length_cons, Nat.pow_succ]
    have := b.toNat_lt
    omega
theorem num_step (l : List UInt8) (k : Nat) (h : k < l.length) : num (l.take (k + 1)) = num (l.take k) * 256 + (l.getD k 0).toNat := by
  rw [List.take_add_one, List.getElem?_eq_getElem h, Option.toList_some, num_snoc]
  simp [List.getD, List.getElem?_eq_getElem h]

theorem or_num {a n b : Nat} (h : a < 256 ^ n) (hn : n < 8) (hb : b < 2 ^ 8) : bits .or .u64 (IntKind.u64.wrap ((a : Int) * 256)) (IntKind.u64.wrap (b : Int)) = ((a * 256 + b : Nat) : Int) := by
  have h2 : 256 ^ n ≤ 256 ^ 7 := Nat.pow_le_pow_right (by omega) (by omega)
  have e1 : IntKind.u64.wrap ((a : Int) * 256) = ((a * 256 : Nat) : Int) := by rw [IntKind.wrap_u64]; omega
  have e2 : IntKind.u64.wrap (b : Int) = (b : Int) := by rw [IntKind.wrap_u64]; omega
  rw [e1, e2, bits_or_u64_nat _ _ (by omega) (by omega)]
  have := Nat.two_pow_add_eq_or_of_lt hb a
  rw [Nat.mul_comm a 256, ← this]

theorem in_number_any (l : List UInt8) (bad : Bool) (n B g : Nat) (w : World) (hin : InIs w B g l bad) (hl : l.length ≤ 140737488355328) (hn : n ≤ 8) :
    Calls Try.prog 21 #[.pointer (some ⟨g, 0, none⟩), .int .i64 (n : Int)] w fun e w' =>
      e = .returned (.int .u64 (num (tk l bad n) : Nat)) ∧ InIs w' B g (tkRest l bad n) (tkBad l bad n) ∧ Fr w.heap.size g w w' := by
  go_enter Try.func21, Try.ntmps21
  go_wp2_with fail
  refine (take_any l bad n B g w hin hl (by omega)).mono ?_
  rintro e w1 ⟨A, c, he, hs, hin1, hfr⟩
  have hlen : (tk l bad n).length ≤ 8 := by unfold tk; split <;> simp <;> omega
  obtain ⟨t, ht⟩ : ∃ t, t = tk l bad n := ⟨_, rfl⟩
  rw [← ht] at hs hlen he
  subst he
  have Ht := Lib.hid ht
  clear ht
  go_wp2
  go_loop [5, 12] (fun v i => ∃ k : Nat, k ≤ t.length ∧ i = .int .i64 k ∧ v = .int .u64 (num (t.take k) : Nat)) (fun _ i => t.length - (intOf i).toNat)
  case atStart => exact ⟨0, Nat.zero_le _, rfl, rfl⟩
  case round =>
    obtain ⟨k, hk, rfl, rfl⟩ := hrel
    by_cases hlt : k < t.length
    · obtain ⟨ad, rfl, hc⟩ := hs.at_ (k := k) (by rw [byc_length]; exact hlt)
      rw [byc_get] at hc
      have hb := (t.getD k 0).toNat_lt
      have hst := or_num (num_lt (t.take k)) (by rw [List.length_take]; omega) hb
      go_wp2
      go_round
      case rel => exact ⟨k + 1, by omega, by go_num, by rw [num_step t k hlt, ← hst]; simp [List.getD, List.getElem?_eq_getElem hlt]⟩
      case measure => simp [intOf]; omega
    · go_wp2
      go_ret
      rw [List.take_of_length_le (by omega), ← Ht.out]
      exact ⟨rfl, hin1, hfr⟩

theorem sl_string {w : World} {A : Option Addr} {c : Nat} {l : List UInt8} (h : Sl w A c (byc l)) :
    (convert 22 9 (.slice A l.length c)).run Try.prog w = .ok (.string ⟨l.toArray⟩) w := by
  cases A with
  | none =>
    have h0 := h.nil rfl
    have h1 := h.cap
    rw [byc_length] at h1
    have hl : l = [] := List.eq_nil_of_length_eq_zero (by omega)
    subst hl
    exact run_convert_bytes_nil w _ _ Try.underlying22 Try.underlying5 _ _ _ Try.underlying9
  | some ad =>
    exact run_convert_bytes_back w _ _ _ ad c l Try.underlying22 Try.underlying5 Try.underlying9 fun j hj => h.cell ad rfl j _ (by simp [byc, List.getElem?_eq_getElem hj])

theorem in_text_any (l : List UInt8) (bad : Bool) (B g : Nat) (w : World) (hin : InIs w B g l bad) (hl : l.length ≤ 140737488355328) :
    Calls Try.prog 22 #[.pointer (some ⟨g, 0, none⟩)] w fun e w' =>
      e = .returned (.string ⟨(tk (tkRest l bad 2) (tkBad l bad 2) (num (tk l bad 2))).toArray⟩) ∧ InIs w' B g (tkRest (tkRest l bad 2) (tkBad l bad 2) (num (tk l bad 2))) (tkBad (tkRest l bad 2) (tkBad l bad 2) (num (tk l bad 2))) ∧ Fr w.heap.size g w w' := by
  have hnum : num (tk l bad 2) < 65536 := by
    have h1 := num_lt (tk l bad 2)
    have h2 : (tk l bad 2).length ≤ 2 := by unfold tk; split <;> simp <;> omega
    have h3 : 256 ^ (tk l bad 2).length ≤ 256 ^ 2 := Nat.pow_le_pow_right (by omega) h2
    omega
  have hl1 : (tkRest l bad 2).length ≤ 140737488355328 := by unfold tkRest; split; exact hl; rw [List.length_drop]; omega
  go_enter Try.func22, Try.ntmps22
  go_wp2_with fail
  refine (in_number_any l bad 2 B g w hin hl (by omega)).mono ?_
  rintro e w1 ⟨rfl, hin1, hfr⟩
  obtain ⟨m, hm⟩ : ∃ m, m = num (tk l bad 2) := ⟨_, rfl⟩
  rw [← hm] at hnum ⊢
  have Hm := Lib.hid hm
  clear hm
  obtain ⟨l1, hl1e⟩ : ∃ x, x = tkRest l bad 2 := ⟨_, rfl⟩
  obtain ⟨b1, hb1e⟩ : ∃ x, x = tkBad l bad 2 := ⟨_, rfl⟩
  rw [← hl1e] at hl1
  rw [← hl1e, ← hb1e] at hin1
  have Hl := Lib.hid hl1e
  have Hb := Lib.hid hb1e
  clear hl1e hb1e
  go_wp2_with fail
  refine (take_any l1 b1 m B g w1 hin1 hl1 (by omega)).mono ?_
  rintro e w2 ⟨A, c, rfl, hs, hin2, hfr2⟩
  have hstr := sl_string hs
  go_wp2
  go_ret
  rw [← Hm.out, ← Hl.out, ← Hb.out]
  exact ⟨rfl, hin2, hfr.trans (hfr2.mono hfr.size)⟩

theorem over_any (l : List UInt8) (bad : Bool) (B g : Nat) (w : World) (hin : InIs w B g l bad) :
    Calls Try.prog 23 #[.pointer (some ⟨g, 0, none⟩)] w fun e w' => e = .returned (.bool (!bad && decide (l = []))) ∧ w = w' := by
  obtain ⟨A, c, hblk, hs, hne⟩ := hin
  obtain ⟨c0, c1, f0, f1⟩ := in_cells hblk
  go_enter Try.func23, Try.ntmps23
  cases bad with
  | true =>
    go_wp2
    go_ret
    exact ⟨rfl, rfl⟩
  | false =>
    cases l with
    | nil =>
      go_wp2
      go_ret
      exact ⟨rfl, rfl⟩
    | cons b l =>
      rw [List.length_cons] at c0
      go_wp2
      go_ret
      refine ⟨?_, rfl⟩
      simp
      omega
end Go.Proofs.Ytdepbaoechnekaa
