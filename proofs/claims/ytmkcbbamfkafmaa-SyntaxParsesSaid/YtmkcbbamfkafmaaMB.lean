/- Plain words on memory: rows of cells, lists that are read. No program in sight. -/
import Derived.WalkKit
import Derived.LoopTactic
import Derived.Deep.OwnRows
import Derived.Lib.Hide
import Derived.Deep.RegionHeld3
import Derived.Test.YtmkcbbamfkafmaaProg
import Derived.Test.YtmkcbbamfkafmaaMA
import Derived.BigQuiet
import Derived.Deep.QuietTactic
import Derived.Outline
import Derived.Maps.AppendAt
import Derived.Deep.AppendLies
import Derived.Lib.AppendStr
import Derived.RegionTactic
namespace Go.Proofs.Ytmkcbbamfkafmaa
open Go.RowKit

theorem four_get (f : Nat → Value) (j : Nat) (h : j < 4) : [f 0, f 1, f 2, f 3][j]? = some (f j) := by
  match j, h with
  | 0, _ => rfl
  | 1, _ => rfl
  | 2, _ => rfl
  | 3, _ => rfl

theorem row4 {w : World} {b : Nat} {t : TypeId} {f : Nat → Value} (h : w.rowIs b t 4 f) :
    w.cell? ⟨b, 0, none⟩ = some (f 0) ∧ w.cell? ⟨b, 1, none⟩ = some (f 1) ∧ w.cell? ⟨b, 2, none⟩ = some (f 2) ∧ w.cell? ⟨b, 3, none⟩ = some (f 3) ∧
      w.frozen? ⟨b, 0, none⟩ = false ∧ w.frozen? ⟨b, 1, none⟩ = false ∧ w.frozen? ⟨b, 2, none⟩ = false ∧ w.frozen? ⟨b, 3, none⟩ = false :=
  ⟨h.cell (by omega), h.cell (by omega), h.cell (by omega), h.cell (by omega), h.frozen _, h.frozen _, h.frozen _, h.frozen _⟩

theorem row4_lit {w : World} {b : Nat} {t : TypeId} {f : Nat → Value} (h : w.rowIs b t 4 f) : w.heap[b]? = some (.cells #[f 0, f 1, f 2, f 3] t (0, 0)) := by
  obtain ⟨c, hb, hn, hc⟩ := h
  rw [hb]
  congr 2
  apply Array.ext_getElem?
  intro i
  by_cases hi : i < 4
  · rw [hc i hi]
    have := four_get f i hi
    simpa using this.symm
  · rw [Array.getElem?_eq_none (by omega), Array.getElem?_eq_none (by simp; omega)]

/-- A new row of four, and one behind it. -/
theorem row4_new (w : World) (f : Nat → Value) (t : TypeId) : (w.alloc (.cells #[f 0, f 1, f 2, f 3] t)).rowIs w.heap.size t 4 f :=
  World.rowIs_alloc w #[f 0, f 1, f 2, f 3] t f (fun i hi => by have := four_get f i (by simpa using hi); simpa using this)
theorem size_alloc (w : World) (o : Obj) : (w.alloc o).heap.size = w.heap.size + 1 := by simp
theorem row4_new1 (w : World) (o : Obj) (f : Nat → Value) (t : TypeId) : ((w.alloc o).alloc (.cells #[f 0, f 1, f 2, f 3] t)).rowIs (w.heap.size + 1) t 4 f := by
  have := row4_new (w.alloc o) f t
  rwa [size_alloc] at this

theorem row_below {w w' : World} {b : Nat} {t : TypeId} {n : Nat} {f : Nat → Value} (h : w.rowIs b t n f) (hb : Below w.heap.size w w') : w'.rowIs b t n f := h.of_block (hb.block b h.lt)
theorem four_getE (f : Nat → Value) (j : Nat) (h : j < [f 0, f 1, f 2, f 3].length) : [f 0, f 1, f 2, f 3][j] = f j := by
  have := four_get f j h
  rw [List.getElem?_eq_getElem h] at this
  exact Option.some.inj this
theorem row_far4 {w : World} {b b2 : Nat} {t : TypeId} {n : Nat} {f : Nat → Value} (h : w.rowIs b t n f) (hne : b ≠ b2) (g : Nat → Value) :
    ((((w.setCell ⟨b2, 0, none⟩ (g 0)).setCell ⟨b2, 1, none⟩ (g 1)).setCell ⟨b2, 2, none⟩ (g 2)).setCell ⟨b2, 3, none⟩ (g 3)).rowIs b t n f :=
  (((h.setOther (by exact hne) _).setOther (by exact hne) _).setOther (by exact hne) _).setOther (by exact hne) _
theorem row_box (w : World) (cs : Array Value) (t : TypeId) {n : Nat} {f : Nat → Value} (hs : cs.size = n) (hf : ∀ i, i < n → cs[i]? = some (f i)) : (w.alloc (.cells cs t)).rowIs w.heap.size t n f := by
  subst hs
  exact World.rowIs_alloc w cs t f hf
/-- Four stores. -/
theorem row4_set {w : World} {b : Nat} {t : TypeId} {f : Nat → Value} (h : w.rowIs b t 4 f) (g : Nat → Value) :
    ((((w.setCell ⟨b, 0, none⟩ (g 0)).setCell ⟨b, 1, none⟩ (g 1)).setCell ⟨b, 2, none⟩ (g 2)).setCell ⟨b, 3, none⟩ (g 3)).rowIs b t 4 g :=
  ((((h.set 0 (g 0)).set 1 (g 1)).set 2 (g 2)).set 3 (g 3)).congr fun i hi => by
    match i, hi with
    | 0, _ => rfl
    | 1, _ => rfl
    | 2, _ => rfl
    | 3, _ => rfl
theorem below_set4 {B : Nat} {a w : World} (h : Below B a w) {b : Nat} (hb : B ≤ b) (g : Nat → Value) :
    Below B a ((((w.setCell ⟨b, 0, none⟩ (g 0)).setCell ⟨b, 1, none⟩ (g 1)).setCell ⟨b, 2, none⟩ (g 2)).setCell ⟨b, 3, none⟩ (g 3)) :=
  (((h.setCell (by exact hb) _).setCell (by exact hb) _).setCell (by exact hb) _).setCell (by exact hb) _

/-- The end of a function whose one result is an array of four in a block of its own. -/
theorem post_row4 {P : Program} {fn : Func} {R : Ending → World → Prop} {a : Act} {w : World} {t : Tmp} {T e : TypeId} {b : Nat} {f : Nat → Value} (hr : fn.results = #[.cell t T])
    (hp : a.tmps.getD t undef = .pointer (some ⟨b, 0, none⟩)) (hrow : w.rowIs b T 4 f) (hu : P.underlying T = some (.array 4 e)) (hi : (P.info? T).map (·.size) = some 4) (hd : a.defers = [])
    (hR : R (.returned (.agg #[f 0, f 1, f 2, f 3])) w) : bodyPost P fn R .ret a w :=
  bodyPost_ret (results_cell_row hr _ w b T #[f 0, f 1, f 2, f 3] (0, 0) _ hp (row4_lit hrow) hu rfl hi) hd hR

/-- A row that is turned cell by cell. -/
theorem row_step {w : World} {b : Nat} {t : TypeId} {n k : Nat} {f g : Nat → Value} (h : w.rowIs b t n (fun j => if j < k then g j else f j)) {v : Value} (hv : v = g k) :
    (w.setCell ⟨b, k, none⟩ v).rowIs b t n (fun j => if j < k + 1 then g j else f j) :=
  (h.set k v).congr fun i _ => by
    subst hv
    by_cases e : i = k
    · subst e; simp
    · by_cases e2 : i < k
      · simp [e, e2, Nat.lt_succ_of_lt e2]
      · simp [e, e2, show ¬ i < k + 1 by omega]
theorem row_at {w : World} {b : Nat} {t : TypeId} {n k : Nat} {f g : Nat → Value} (h : w.rowIs b t n (fun j => if j < k then g j else f j)) (hk : k < n) : w.cell? ⟨b, k, none⟩ = some (f k) := by
  have := h.cell hk
  simpa using this
theorem row_all {w : World} {b : Nat} {t : TypeId} {n k : Nat} {f g : Nat → Value} (h : w.rowIs b t n (fun j => if j < k then g j else f j)) (hk : n ≤ k) : w.rowIs b t n g :=
  h.congr fun i hi => by simp [show i < k by omega]

/-- A slice that reads as a list of numbers. -/
def RdI (w : World) (k : IntKind) (A : Option Addr) (l : List Int) : Prop :=
  l.length ≤ 9223372036854775807 ∧ (0 < l.length → ∃ ad, A = some ad ∧ ∀ j, j < l.length → w.cell? (ad.add j) = some (.int k (l.getD j 0)))
theorem RdI.below {w w' : World} {k : IntKind} {A : Option Addr} {l : List Int} (h : RdI w k A l) (hb : Below w.heap.size w w') : RdI w' k A l :=
  ⟨h.1, fun hn => by
    obtain ⟨ad, e, hc⟩ := h.2 hn
    exact ⟨ad, e, fun j hj => (hb.cell (World.block_lt_of_cell? w _ (hc j hj))).trans (hc j hj)⟩⟩

def Byt (l : List Int) : Prop := ∀ b, b ∈ l → 0 ≤ b ∧ b < 256
theorem Byt.at_ {l : List Int} (h : Byt l) {k : Nat} (hk : k < l.length) : 0 ≤ l.getD k 0 ∧ l.getD k 0 < 256 := by
  rw [List.getD_eq_getElem?_getD, List.getElem?_eq_getElem hk]
  exact h _ (List.getElem_mem hk)
theorem mem_take_succ {l : List Int} {k : Nat} (hk : k < l.length) (b : Int) : b ∈ l.take (k + 1) ↔ b ∈ l.take k ∨ b = l.getD k 0 := by
  rw [List.getD_eq_getElem?_getD, List.getElem?_eq_getElem hk]
  rw [show l.take (k + 1) = l.take k ++ [l[k]] by simp]
  simp only [List.mem_append, List.mem_singleton, Option.getD_some]
/-- What is kept beyond a call: below the world's own size. -/
theorem below_trans' {B : Nat} {a b c : World} (h : Below B a b) (hB : B ≤ b.heap.size) (k : Below b.heap.size b c) : Below B a c := h.trans (k.mono hB)
theorem ext_trans {a b c : World} (h : Below a.heap.size a b) (k : Below b.heap.size b c) : Below a.heap.size a c := h.trans (k.mono h.size)
theorem rdI_new (w : World) (k : IntKind) (n : Int) (t : TypeId) : RdI (w.alloc (.cells #[.int k n] t)) k (some ⟨w.heap.size, 0, none⟩) [n] :=
  ⟨by simp, fun _ => ⟨_, rfl, fun j hj => by
    obtain rfl : j = 0 := by simp at hj; omega
    simp [Addr.add]⟩⟩
/-- The cells that a walk has told of an address. -/
noncomputable def seenAt (w : World) (a : Addr) (n : Nat) : Option (Array Value) :=
  open Classical in if h : ∃ cs : List Value, cs.length = n ∧ a = ⟨a.block, a.off, none⟩ ∧ w.rangeAt a.block a.off cs then some h.choose.toArray else none
theorem seenAt_of {w : World} {b o n : Nat} {cs : List Value} (h : w.rangeAt b o cs) (hl : cs.length = n) : seenAt w ⟨b, o, none⟩ n = some cs.toArray := by
  have hex : ∃ cs : List Value, cs.length = n ∧ (⟨b, o, none⟩ : Addr) = ⟨b, o, none⟩ ∧ w.rangeAt b o cs := ⟨cs, hl, rfl, h⟩
  unfold seenAt
  rw [dif_pos hex]
  obtain ⟨h1, _, h2⟩ := hex.choose_spec
  generalize hex.choose = ds at h1 h2
  congr 2
  apply List.ext_getElem?
  intro i
  by_cases hi : i < n
  · have e1 : ds[i]? = some (ds[i]'(by omega)) := List.getElem?_eq_getElem (by omega)
    have e2 : cs[i]? = some (cs[i]'(by omega)) := List.getElem?_eq_getElem (by omega)
    have := (h2 i _ e1).symm.trans (h i _ e2)
    rw [e1, e2, this]
  · rw [List.getElem?_eq_none (by omega), List.getElem?_eq_none (by omega)]
end Go.Proofs.Ytmkcbbamfkafmaa
/- The walks of the functions on classes of bytes. -/
namespace Go.Proofs.Ytmkcbbamfkafmaa
open Go.RowKit

/-- The value of a class. -/
def RetC (Q : (Nat → Int) → Prop) (w : World) (e : Ending) (w' : World) : Prop :=
  ∃ x : Nat → Int, e = .returned (.agg #[.int .u64 (x 0), .int .u64 (x 1), .int .u64 (x 2), .int .u64 (x 3)]) ∧ W64 x ∧ Q x ∧ Below w.heap.size w w'

theorem has_empty (b : Nat) : hasB (fun _ => 0) b = false := by simp [hasB]
theorem w64_zero : W64 (fun _ => 0) := fun _ _ => ⟨Int.le_refl _, by show (0 : Int) < U64; unfold U64; decide⟩

set_option maxHeartbeats 400000 in
theorem of_any (l : List Int) (A : Option Addr) (c : Nat) (w : World) (hr : RdI w .u8 A l) (hl : Byt l) :
    Calls Try.prog 41 #[.slice A l.length c] w (RetC (fun x => ∀ b, b < 256 → hasB x b = memB l b) w) := by
  have hlen := hr.1
  go_enter Try.func41, Try.ntmps41
  go_wp2
  go_loopw [8] (fun i wr => ∃ (k : Nat) (x : Nat → Int), k ≤ l.length ∧ i = .int .i64 k ∧ W64 x ∧ Hid (∀ b, b < 256 → hasB x b = decide ((b : Int) ∈ l.take k)) ∧
      wr.rowIs (w.heap.size + 1) 25 4 (fun j => .int .u64 (x j)) ∧ wr.rowIs w.heap.size 25 4 (fun _ => .int .u64 0) ∧ Below w.heap.size w wr) (fun i _ => l.length - (intOf i).toNat)
  case atStart => 
    refine ⟨0, fun _ => 0, Nat.zero_le _, rfl, w64_zero, fun b _ => by rw [has_empty]; simp, ?_, ?_, ?_⟩
    · exact row4_new1 w _ (fun _ => .int .u64 0) _
    · exact (row4_new w (fun _ => .int .u64 0) _).alloc _
    · exact ((Below.refl _ _).alloc (Nat.le_refl _) _).alloc (by simp) _
  case round =>
    obtain ⟨k, x, hk, rfl, hx, hh, hrow, hres, hb⟩ := hrel
    by_cases hlt : k < l.length
    · obtain ⟨ad, rfl, hc⟩ := hr.2 (by omega)
      have hb0 := hl.at_ hlt
      have hck := (hb.cell (World.block_lt_of_cell? w _ (hc k hlt))).trans (hc k hlt)
      clear hc
      obtain ⟨b, hbe⟩ : ∃ b, b = l.getD k 0 := ⟨_, rfl⟩
      rw [← hbe] at hb0 hck
      obtain ⟨hb1, hb2⟩ := hb0
      have Hbe := Lib.hid hbe
      clear hbe
      have hcc := hrow.cell (i := (b / 64).toNat) (by omega)
      have hfz := hrow.frozen (b / 64).toNat
      go_wp2
      have ⟨hw, hs⟩ := or_step hx hb1 hb2
      go_roundw
      case rel =>
        refine ⟨k + 1, setW x _ _, by omega, by go_num, hw, ?_, (hrow.set _ _).congr fun i _ => ?_, hres.setOther (by simp) _, hb.setCell (by simp) _⟩
        · intro q hq
          rw [hs q hq, hh.out q hq]
          have := mem_take_succ hlt (q : Int)
          rw [← Hbe.out] at this
          simp only [this, Bool.decide_or]
        · unfold setW; split <;> rfl
      case measure => simp [intOf]; omega
    · obtain ⟨c0, c1, c2, c3, _⟩ := row4 hrow
      obtain ⟨r0, r1, r2, r3, f0, f1, f2, f3⟩ := row4 hres
      go_wp2
      refine post_row4 (t := 2) (T := 25) (b := w.heap.size) (f := fun j => .int .u64 (x j)) Try.results41 rfl (row4_set hres (fun j => .int .u64 (x j))) Try.underlying25 (by kernel_rfl) rfl ?_
      refine ⟨x, rfl, hx, ?_, below_set4 hb (Nat.le_refl _) (fun j => .int .u64 (x j))⟩
      have := hh.out
      rw [List.take_of_length_le (by omega)] at this
      exact this

set_option maxHeartbeats 400000 in
theorem range_any (lo hi : Int) (h1 : 0 ≤ lo) (h2 : lo < 256) (h3 : 0 ≤ hi) (h4 : hi < 256) (w : World) :
    Calls Try.prog 39 #[.int .u8 lo, .int .u8 hi] w (RetC (fun x => ∀ b : Nat, b < 256 → hasB x b = inR lo hi b) w) := by
  go_enter Try.func39, Try.ntmps39
  go_wp2
  go_loopw [6] (fun i wr => ∃ (k : Nat) (x : Nat → Int), lo ≤ k ∧ (k : Int) ≤ hi + 1 + lo ∧ i = .int .i64 k ∧ W64 x ∧ Hid (∀ b : Nat, b < 256 → hasB x b = decide (lo ≤ b ∧ (b : Int) < k)) ∧ ((k : Int) ≤ hi + 1 ∨ (k : Int) = lo) ∧
      wr.rowIs (w.heap.size + 1) 25 4 (fun j => .int .u64 (x j)) ∧ wr.rowIs w.heap.size 25 4 (fun _ => .int .u64 0) ∧ Below w.heap.size w wr) (fun i _ => 256 - (intOf i).toNat)
  case atStart =>
    refine ⟨lo.toNat, fun _ => 0, by omega, by omega, by rw [Int.toNat_of_nonneg h1], w64_zero, fun b _ => ?_, by omega, ?_, ?_, ?_⟩
    · rw [has_empty, eq_comm, decide_eq_false_iff_not]; omega
    · exact row4_new1 w _ (fun _ => .int .u64 0) _
    · exact (row4_new w (fun _ => .int .u64 0) _).alloc _
    · exact ((Below.refl _ _).alloc (Nat.le_refl _) _).alloc (by simp) _
  case round =>
    obtain ⟨k, x, hk1, hk2, rfl, hx, hh, hor, hrow, hres, hb⟩ := hrel
    by_cases hlt : (k : Int) ≤ hi
    · have hcc := hrow.cell (i := ((k : Int) / 64).toNat) (by omega)
      have hfz := hrow.frozen ((k : Int) / 64).toNat
      have hand := and63 (k := k) (by omega) (by omega)
      have hq0 : 0 ≤ (k : Int) / 64 := by omega
      have hq4 : (k : Int) / 64 < 4 := by omega
      have hm0 : 0 ≤ (k : Int) % 64 := by omega
      clear hor
      go_wp2
      go_region
      go_wp2
      have ⟨hw, hs⟩ := or_step hx (b := k) (by omega) (by omega)
      go_roundw
      case rel =>
        refine ⟨k + 1, setW x _ _, by omega, by omega, by go_num, hw, ?_, by omega, ((hrow.set _ _).congr fun i _ => ?_).drew, (hres.setOther (by simp) _).drew, (hb.setCell (by simp) _).drew⟩
        · intro q hq
          rw [hs q hq, hh.out q hq, ← Bool.decide_or]
          apply decide_eq_decide.2
          omega
        · simp only [setW, show ((k : Int) / 64).toNat = k / 64 by omega, show ((k : Int) % 64).toNat = k % 64 by omega]
          split <;> rfl
      case measure => simp [intOf]; omega
    · obtain ⟨c0, c1, c2, c3, _⟩ := row4 hrow
      obtain ⟨r0, r1, r2, r3, f0, f1, f2, f3⟩ := row4 hres
      go_wp2
      refine post_row4 (t := 4) (T := 25) (b := w.heap.size) (f := fun j => .int .u64 (x j)) Try.results39 rfl (row4_set hres (fun j => .int .u64 (x j))) Try.underlying25 (by kernel_rfl) rfl ?_
      refine ⟨x, rfl, hx, ?_, below_set4 hb (Nat.le_refl _) (fun j => .int .u64 (x j))⟩
      intro q hq
      rw [hh.out q hq]
      unfold inR
      apply decide_eq_decide.2
      omega

theorem not_any (x : Nat → Int) (w : World) :
    Calls Try.prog 52 #[.agg #[.int .u64 (x 0), .int .u64 (x 1), .int .u64 (x 2), .int .u64 (x 3)]] w fun e w' => e = .returned (.agg #[.int .u64 (notw (x 0)), .int .u64 (notw (x 1)), .int .u64 (notw (x 2)), .int .u64 (notw (x 3))]) ∧ Below w.heap.size w w' := by
  go_enter Try.func52, Try.ntmps52
  go_wp2
  go_loopw [4] (fun i wr => ∃ k : Nat, k ≤ 4 ∧ i = .int .i64 k ∧
      wr.rowIs w.heap.size 25 4 (fun j => if j < k then .int .u64 (notw (x j)) else .int .u64 (x j)) ∧ wr.rowIs (w.heap.size + 1) 25 4 (fun _ => .int .u64 0) ∧ Below w.heap.size w wr) (fun i _ => 4 - (intOf i).toNat)
  case atStart =>
    refine ⟨0, by omega, rfl, ?_, ?_, ?_⟩
    · exact (row4_new w (fun j => .int .u64 (x j)) _).alloc _
    · exact row4_new1 w _ (fun _ => .int .u64 0) _
    · exact ((Below.refl _ _).alloc (Nat.le_refl _) _).alloc (by simp) _
  case round =>
    obtain ⟨k, hk, rfl, hrow, hres, hb⟩ := hrel
    by_cases hlt : k < 4
    · have hcc := row_at hrow hlt
      have hfz := hrow.frozen k
      go_wp2
      go_roundw
      case rel => exact ⟨k + 1, by omega, by go_num, row_step hrow (by rw [notw_eq]), hres.setOther (by simp) _, hb.setCell (Nat.le_refl _) _⟩
      case measure => simp [intOf]; omega
    · have hrow' := row_all hrow (by omega)
      clear hrow
      obtain ⟨c0, c1, c2, c3, _⟩ := row4 hrow'
      obtain ⟨r0, r1, r2, r3, f0, f1, f2, f3⟩ := row4 hres
      go_wp2
      refine post_row4 (t := 2) (T := 25) (b := w.heap.size + 1) (f := fun j => .int .u64 (notw (x j))) Try.results52 rfl (row4_set hres (fun j => .int .u64 (notw (x j)))) Try.underlying25 (by kernel_rfl) rfl ?_
      exact ⟨rfl, below_set4 hb (Nat.le_succ _) (fun j => .int .u64 (notw (x j)))⟩

set_option maxHeartbeats 400000 in
theorem or_any (x y : Nat → Int) (w : World) :
    Calls Try.prog 51 #[.agg #[.int .u64 (x 0), .int .u64 (x 1), .int .u64 (x 2), .int .u64 (x 3)], .agg #[.int .u64 (y 0), .int .u64 (y 1), .int .u64 (y 2), .int .u64 (y 3)]] w fun e w' => e = .returned (.agg #[.int .u64 (orw (x 0) (y 0)), .int .u64 (orw (x 1) (y 1)), .int .u64 (orw (x 2) (y 2)), .int .u64 (orw (x 3) (y 3))]) ∧ Below w.heap.size w w' := by
  go_enter Try.func51, Try.ntmps51
  go_wp2
  go_loopw [6] (fun i wr => ∃ k : Nat, k ≤ 4 ∧ i = .int .i64 k ∧
      wr.rowIs w.heap.size 25 4 (fun j => if j < k then .int .u64 (orw (x j) (y j)) else .int .u64 (x j)) ∧ wr.rowIs (w.heap.size + 1) 25 4 (fun j => .int .u64 (y j)) ∧
      wr.rowIs (w.heap.size + 1 + 1) 25 4 (fun _ => .int .u64 0) ∧ Below w.heap.size w wr) (fun i _ => 4 - (intOf i).toNat)
  case atStart =>
    refine ⟨0, by omega, rfl, ?_, ?_, ?_, ?_⟩
    · exact ((row4_new w (fun j => .int .u64 (x j)) _).alloc _).alloc _
    · exact (row4_new1 w _ (fun j => .int .u64 (y j)) _).alloc _
    · have := row4_new1 (w.alloc (.cells #[.int .u64 (x 0), .int .u64 (x 1), .int .u64 (x 2), .int .u64 (x 3)] 25)) (.cells #[.int .u64 (y 0), .int .u64 (y 1), .int .u64 (y 2), .int .u64 (y 3)] 25) (fun _ => .int .u64 0) 25
      rwa [size_alloc] at this
    · exact (((Below.refl _ _).alloc (Nat.le_refl _) _).alloc (by simp) _).alloc (by simp; omega) _
  case round =>
    obtain ⟨k, hk, rfl, hrow, hrow2, hres, hb⟩ := hrel
    by_cases hlt : k < 4
    · have hcc := row_at hrow hlt
      have hfz := hrow.frozen k
      have hcd := hrow2.cell hlt
      go_wp2
      go_region
      go_wp2
      go_roundw
      case rel => exact ⟨k + 1, by omega, by go_num, (row_step hrow rfl).drew, (hrow2.setOther (by simp) _).drew, (hres.setOther (by simp; omega) _).drew, (hb.setCell (Nat.le_refl _) _).drew⟩
      case measure => simp [intOf]; omega
    · have hrow' := row_all hrow (by omega)
      clear hrow
      obtain ⟨c0, c1, c2, c3, _⟩ := row4 hrow'
      obtain ⟨r0, r1, r2, r3, f0, f1, f2, f3⟩ := row4 hres
      go_wp2
      refine post_row4 (t := 4) (T := 25) (b := w.heap.size + 1 + 1) (f := fun j => .int .u64 (orw (x j) (y j))) Try.results51 rfl (row4_set hres (fun j => .int .u64 (orw (x j) (y j)))) Try.underlying25 (by kernel_rfl) rfl ?_
      exact ⟨rfl, below_set4 hb (by omega) (fun j => .int .u64 (orw (x j) (y j)))⟩

theorem rhas_any (x : Nat → Int) (hx : W64 x) (b : Int) (h0 : 0 ≤ b) (h1 : b < 256) (w : World) :
    Calls Try.prog 73 #[.agg #[.int .u64 (x 0), .int .u64 (x 1), .int .u64 (x 2), .int .u64 (x 3)], .int .i64 b] w fun e w' => e = .returned (.bool (hasB x b.toNat)) ∧ Below w.heap.size w w' := by
  have hc := four_get (fun j => .int .u64 (x j)) (b / 64).toNat (by omega)
  have hq0 : 0 ≤ b / 64 := by omega
  have hq4 : b / 64 < 4 := by omega
  go_enter Try.func73, Try.ntmps73
  go_wp2
  go_loop [5, 6] (fun v i => ∃ k : Nat, (k : Int) ≤ b % 64 ∧ i = .int .i64 k ∧ v = .int .u64 (x (b / 64).toNat / 2 ^ k)) (fun _ i => 64 - (intOf i).toNat)
  case atStart => exact ⟨0, by omega, rfl, by rw [four_getE (fun j => .int .u64 (x j))]; simp⟩
  case round =>
    obtain ⟨k, hk, rfl, rfl⟩ := hrel
    have hw := hx (b / 64).toNat (by omega)
    by_cases hlt : (k : Int) < b % 64
    · go_wp2
      go_round
      case rel => exact ⟨k + 1, by omega, by go_num, by rw [half_step hw.1 hw.2]⟩
      case measure => simp [intOf]; omega
    · go_wp2
      go_ret
      refine ⟨?_, (Below.refl _ _).alloc (Nat.le_refl _) _⟩
      have e := odd_spelt hw.1 hw.2 k
      simp only [hasB]
      rw [show b.toNat / 64 = (b / 64).toNat by omega, show b.toNat % 64 = k by omega, ← e]
      rfl

set_option maxHeartbeats 400000 in
theorem put_any (x : Nat → Int) (hx : W64 x) (b : Int) (h0 : 0 ≤ b) (h1 : b < 256) (w : World) :
    Calls Try.prog 68 #[.agg #[.int .u64 (x 0), .int .u64 (x 1), .int .u64 (x 2), .int .u64 (x 3)], .int .i64 b] w (RetC (fun y => ∀ q : Nat, q < 256 → hasB y q = (hasB x q || decide ((q : Int) = b))) w) := by
  go_enter Try.func68, Try.ntmps68
  go_wp2_with fail
  refine (rhas_any x hx b h0 h1 _).mono ?_
  rintro e w2 ⟨rfl, hb2⟩
  have hrow := row_below ((row4_new w (fun j => .int .u64 (x j)) 25).alloc (.cells #[.int .u64 0, .int .u64 0, .int .u64 0, .int .u64 0] 25)) hb2
  have hres := row_below (row4_new1 w (.cells #[.int .u64 (x 0), .int .u64 (x 1), .int .u64 (x 2), .int .u64 (x 3)] 25) (fun _ => .int .u64 0) 25) hb2
  have hb : Below w.heap.size w w2 := below_trans' (((Below.refl _ w).alloc (Nat.le_refl _) _).alloc (by simp) _) (by simp; omega) hb2
  clear hb2
  obtain ⟨c0, c1, c2, c3, _⟩ := row4 hrow
  obtain ⟨r0, r1, r2, r3, f0, f1, f2, f3⟩ := row4 hres
  by_cases hB : hasB x b.toNat = true
  · go_wp2
    refine post_row4 (t := 4) (T := 25) (b := w.heap.size + 1) (f := fun j => .int .u64 (x j)) Try.results68 rfl (row4_set hres (fun j => .int .u64 (x j))) Try.underlying25 (by kernel_rfl) rfl ?_
    refine ⟨x, rfl, hx, fun q hq => ?_, below_set4 hb (Nat.le_succ _) (fun j => .int .u64 (x j))⟩
    by_cases e : (q : Int) = b
    · rw [show q = b.toNat by omega, hB]; simp
    · simp [e]
  · have hB' : hasB x b.toNat = false := by simpa using hB
    clear hB
    have hw := hx (b / 64).toNat (by omega)
    have hq0 : 0 ≤ b / 64 := by omega
    have hq4 : b / 64 < 4 := by omega
    have hcc := hrow.cell (i := (b / 64).toNat) (by omega)
    have hfz := hrow.frozen (b / 64).toNat
    have hm : b % 64 < 64 := by omega
    go_wp2
    go_loop [5, 6] (fun v i => ∃ k : Nat, (k : Int) ≤ b % 64 ∧ i = .int .i64 k ∧ v = .int .u64 (2 ^ k)) (fun _ i => 64 - (intOf i).toNat)
    case atStart => exact ⟨0, by omega, rfl, rfl⟩
    case round =>
      obtain ⟨k, hk, rfl, rfl⟩ := hrel
      by_cases hlt : (k : Int) < b % 64
      · go_wp2
        go_round
        case rel => exact ⟨k + 1, by omega, by go_num, by rw [double_step _ (by omega)]⟩
        case measure => simp [intOf]; omega
      · have hrow2 := (hrow.set (b / 64).toNat (.int .u64 (IntKind.u64.wrap (x (b / 64).toNat + 2 ^ k)))).congr (g := fun j => .int .u64 (setW x (b / 64).toNat (IntKind.u64.wrap (x (b / 64).toNat + 2 ^ k)) j)) (fun i _ => by simp only [setW]; split <;> rfl)
        obtain ⟨d0, d1, d2, d3, _⟩ := row4 hrow2
        go_wp2
        have hr2 := row4_set (hres.setOther (a := ⟨w.heap.size, (b / 64).toNat, none⟩) (by simp) (.int .u64 (IntKind.u64.wrap (x (b / 64).toNat + 2 ^ k)))) (fun j => .int .u64 (setW x (b / 64).toNat (IntKind.u64.wrap (x (b / 64).toNat + 2 ^ k)) j))
        refine post_row4 (t := 4) (T := 25) (b := w.heap.size + 1) (f := fun j => .int .u64 (setW x (b / 64).toNat (IntKind.u64.wrap (x (b / 64).toNat + 2 ^ k)) j)) Try.results68 rfl hr2 Try.underlying25 (by kernel_rfl) rfl ?_
        have hp := put_step hx h0 h1 (k := k) (by omega) hB'
        exact ⟨_, rfl, hp.1, hp.2, below_set4 (hb.setCell (Nat.le_refl _) _) (Nat.le_succ _) (fun j => .int .u64 (setW x (b / 64).toNat (IntKind.u64.wrap (x (b / 64).toNat + 2 ^ k)) j))⟩

set_option maxRecDepth 100000 in
set_option maxHeartbeats 400000 in
theorem made_any (cs : Array Value) (f : Nat → Bool) (hsz : cs.size = 256) (hf : ∀ i, i < 256 → cs[i]? = some (.bool (f i))) (w : World) :
    Calls Try.prog 66 #[.agg cs] w (RetC (fun y => ∀ q : Nat, q < 256 → hasB y q = f q) w) := by
  have H1 := Lib.hid hsz
  have H2 := Lib.hid hf
  clear hsz hf
  go_enter Try.func66, Try.ntmps66
  go_wp2
  go_loopw [4] (fun i wr => ∃ (k : Nat) (y : Nat → Int), k ≤ 256 ∧ i = .int .i64 k ∧ W64 y ∧ Hid (∀ q : Nat, q < 256 → hasB y q = (decide (q < k) && f q)) ∧ wr.rowIs w.heap.size 82 256 (fun i => .bool (f i)) ∧
      wr.rowIs (w.heap.size + 1 + 1) 25 4 (fun j => .int .u64 (y j)) ∧ wr.rowIs (w.heap.size + 1) 25 4 (fun _ => .int .u64 0) ∧ Below w.heap.size w wr) (fun i _ => 256 - (intOf i).toNat)
  case atStart =>
    refine ⟨0, fun _ => 0, by omega, rfl, w64_zero, fun q _ => by rw [has_empty]; simp, ?_, ?_, ?_, ?_⟩
    · exact ((row_box w cs _ H1.out H2.out).alloc _).alloc _
    · have := row4_new1 (w.alloc (.cells cs 82)) (.cells #[.int .u64 0, .int .u64 0, .int .u64 0, .int .u64 0] 25) (fun _ => .int .u64 0) 25
      rwa [size_alloc] at this
    · exact (row4_new1 w _ (fun _ => .int .u64 0) _).alloc _
    · exact (((Below.refl _ _).alloc (Nat.le_refl _) _).alloc (by simp) _).alloc (by simp; omega) _
  case round =>
    obtain ⟨k, y, hk, rfl, hy, hq, hin, hrow, hres, hb⟩ := hrel
    obtain ⟨c0, c1, c2, c3, _⟩ := row4 hrow
    by_cases hlt : k < 256
    · have hcell := hin.cell hlt
      by_cases hfk : f k = true
      · go_wp2_with fail
        refine (put_any y hy k (by omega) (by omega) _).mono ?_
        rintro e w2 ⟨z, rfl, hz, hzq, hb2⟩
        have hin2 := row_below hin hb2
        have hrow2 := row_below hrow hb2
        have hres2 := row_below hres hb2
        have hbb := below_trans' hb hb.size hb2
        clear hcell hin hrow hres hb hb2 c0 c1 c2 c3
        obtain ⟨c0, c1, c2, c3, e0, e1, e2, e3⟩ := row4 hrow2
        have Hz := Lib.hid hzq
        clear hzq
        go_wp2
        go_roundw
        case rel =>
          refine ⟨k + 1, z, by omega, by go_num, hz, fun q hq256 => ?_, row_far4 hin2 (by omega) (fun j => .int .u64 (z j)), row4_set hrow2 (fun j => .int .u64 (z j)), row_far4 hres2 (by omega) (fun j => .int .u64 (z j)), below_set4 hbb (by omega) (fun j => .int .u64 (z j))⟩
          rw [Hz.out q hq256, hq.out q hq256]
          by_cases e : q = k
          · subst e; simp [hfk]
          · rw [show decide ((q : Int) = (k : Int)) = false from decide_eq_false (by omega), Bool.or_false]
            congr 1
            apply decide_eq_decide.2
            omega
        case measure => simp [intOf]; omega
      · have hfk' : f k = false := by simpa using hfk
        clear hfk
        go_wp2
        go_roundw
        case rel =>
          refine ⟨k + 1, y, by omega, by go_num, hy, fun q hq256 => ?_, hin, hrow, hres, hb⟩
          rw [hq.out q hq256]
          by_cases e : q = k
          · subst e; simp [hfk']
          · congr 1
            apply decide_eq_decide.2
            omega
        case measure => simp [intOf]; omega
    · obtain ⟨r0, r1, r2, r3, f0, f1, f2, f3⟩ := row4 hres
      go_wp2
      refine post_row4 (t := 2) (T := 25) (b := w.heap.size + 1) (f := fun j => .int .u64 (y j)) Try.results66 rfl (row4_set hres (fun j => .int .u64 (y j))) Try.underlying25 (by kernel_rfl) rfl ?_
      refine ⟨y, rfl, hy, fun q hq256 => ?_, below_set4 hb (Nat.le_succ _) (fun j => .int .u64 (y j))⟩
      rw [hq.out q hq256, decide_eq_true (by omega), Bool.true_and]

theorem retC_v {Q : (Nat → Int) → Prop} {f : Nat → Bool} (hQ : ∀ x, Q x → ∀ b : Nat, b < 256 → hasB x b = f b) {w : World} {e : Ending} {w' : World} (h : RetC Q w e w') :
    e = .returned (.agg #[.int .u64 (clsOf f 0), .int .u64 (clsOf f 1), .int .u64 (clsOf f 2), .int .u64 (clsOf f 3)]) ∧ Below w.heap.size w w' := by
  obtain ⟨x, rfl, hx, hq, hb⟩ := h
  have := clsOf_eq hx (hQ x hq)
  rw [this 0 (by omega), this 1 (by omega), this 2 (by omega), this 3 (by omega)]
  exact ⟨rfl, hb⟩
theorem of_v (l : List Int) (A : Option Addr) (c : Nat) (w : World) (hr : RdI w .u8 A l) (hl : Byt l) :
    Calls Try.prog 41 #[.slice A l.length c] w fun e w' => e = .returned (.agg #[.int .u64 (clsOf (memB l) 0), .int .u64 (clsOf (memB l) 1), .int .u64 (clsOf (memB l) 2), .int .u64 (clsOf (memB l) 3)]) ∧ Below w.heap.size w w' :=
  (of_any l A c w hr hl).mono fun _ _ h => retC_v (fun _ h => h) h
theorem range_v (lo hi : Int) (h1 : 0 ≤ lo) (h2 : lo < 256) (h3 : 0 ≤ hi) (h4 : hi < 256) (w : World) :
    Calls Try.prog 39 #[.int .u8 lo, .int .u8 hi] w fun e w' => e = .returned (.agg #[.int .u64 (clsOf (inR lo hi) 0), .int .u64 (clsOf (inR lo hi) 1), .int .u64 (clsOf (inR lo hi) 2), .int .u64 (clsOf (inR lo hi) 3)]) ∧ Below w.heap.size w w' :=
  (range_any lo hi h1 h2 h3 h4 w).mono fun _ _ h => retC_v (fun _ h => h) h
theorem made_v (cs : Array Value) (f : Nat → Bool) (hsz : cs.size = 256) (hf : ∀ i, i < 256 → cs[i]? = some (.bool (f i))) (w : World) :
    Calls Try.prog 66 #[.agg cs] w fun e w' => e = .returned (.agg #[.int .u64 (clsOf f 0), .int .u64 (clsOf f 1), .int .u64 (clsOf f 2), .int .u64 (clsOf f 3)]) ∧ Below w.heap.size w w' :=
  (made_any cs f hsz hf w).mono fun _ _ h => retC_v (fun _ h => h) h

end Go.Proofs.Ytmkcbbamfkafmaa
/- Plain words on memory: slices of one-cell elements that are read, rows of the call's own that are appended to, frames with one block let out. No program in sight. -/
namespace Go.Proofs.Ytmkcbbamfkafmaa
open Go.RowKit

theorem addr_block (a : Addr) (n : Nat) : (a.add n).block = a.block := by unfold Addr.add; split <;> rfl
theorem addr_add_add (a : Addr) (i j : Nat) : (a.add i).add j = a.add (i + j) := by
  unfold Addr.add
  by_cases hi : i = 0 <;> by_cases hj : j = 0 <;> simp [hi, hj, Nat.add_assoc]

/-- The slice of address A and capacity c holds the cells xs. -/
structure Sl (w : World) (A : Option Addr) (c : Nat) (xs : List Value) : Prop where
  cap : xs.length ≤ c
  max : c ≤ 9223372036854775807
  nil : A = none → c = 0
  cell : ∀ ad, A = some ad → ∀ j u, xs[j]? = some u → w.cell? (ad.add j) = some u
namespace Sl
variable {w w' : World} {A : Option Addr} {c : Nat} {xs : List Value}
theorem none_ (w : World) : Sl w none 0 [] := ⟨Nat.le_refl _, by omega, fun _ => rfl, fun _ h => by cases h⟩
theorem at_ (h : Sl w A c xs) {k : Nat} (hk : k < xs.length) : ∃ ad, A = some ad ∧ w.cell? (ad.add k) = some xs[k] := by
  cases A with
  | none => have := h.nil rfl; have := h.cap; omega
  | some ad => exact ⟨ad, rfl, h.cell ad rfl k _ (List.getElem?_eq_getElem hk)⟩
theorem keep (h : Sl w A c xs) (hk : ∀ a u, w.cell? a = some u → (∃ ad j, A = some ad ∧ a = ad.add j) → w'.cell? a = some u) : Sl w' A c xs :=
  ⟨h.cap, h.max, h.nil, fun ad e j u hu => hk _ _ (h.cell ad e j u hu) ⟨ad, j, e, rfl⟩⟩
theorem below (h : Sl w A c xs) (hb : Below w.heap.size w w') : Sl w' A c xs :=
  h.keep fun a u hc _ => (hb.cell (World.block_lt_of_cell? w a hc)).trans hc
theorem grown (h : Sl w A c xs) {row : Option Nat} (hg : w.grownBy w' row) (hne : ∀ ad, A = some ad → some ad.block ≠ row) : Sl w' A c xs :=
  h.keep fun a u hc ⟨ad, j, e, ea⟩ => hg.cell hc (by rw [ea, addr_block]; exact hne ad e)
theorem set (h : Sl w A c xs) {p : Addr} (hne : ∀ ad, A = some ad → xs ≠ [] → ad.block ≠ p.block) (u : Value) : Sl (w.setCell p u) A c xs :=
  ⟨h.cap, h.max, h.nil, fun ad e j v hv => by
    have hx : xs ≠ [] := by
      rintro rfl
      simp at hv
    have hc := h.cell ad e j v hv
    exact (World.cell?_of_block (w := w) (Below.heap_setCell w p u (ad.add j).block (by rw [addr_block]; exact hne ad e hx))).trans hc⟩
theorem alloc (h : Sl w A c xs) (o : Obj) : Sl (w.alloc o) A c xs := h.below ((Below.refl _ w).alloc (Nat.le_refl _) o)
theorem drew (h : Sl w A c xs) : Sl w.drew A c xs := ⟨h.cap, h.max, h.nil, h.cell⟩
theorem take (h : Sl w A c xs) (k : Nat) : Sl w A c (xs.take k) :=
  ⟨by have := h.cap; rw [List.length_take]; omega, h.max, h.nil, fun ad e j u hu => h.cell ad e j u (by
    rw [List.getElem?_take] at hu
    split at hu
    · exact hu
    · cases hu)⟩
theorem drop (h : Sl w A c xs) {k : Nat} (hk : k ≤ xs.length) : Sl w (if c = k then A else A.map (·.add k)) (c - k) (xs.drop k) := by
  have := h.cap; have := h.max
  refine ⟨by rw [List.length_drop]; omega, by omega, fun e => ?_, fun ad e j u hu => ?_⟩
  · by_cases hck : c = k
    · omega
    · rw [if_neg hck] at e
      cases A with
      | none => have := h.nil rfl; omega
      | some a => cases e
  · rw [List.getElem?_drop] at hu
    have hj : k + j < xs.length := (List.getElem?_eq_some_iff.1 hu).1
    rw [if_neg (by omega)] at e
    cases A with
    | none => cases e
    | some a =>
      simp only [Option.map_some, Option.some.injEq] at e
      subst e
      rw [addr_add_add]
      exact h.cell a rfl _ u hu
theorem lt (h : Sl w A c xs) (hx : 0 < xs.length) : ∀ ad, A = some ad → ad.block < w.heap.size := fun ad e => by
  have := World.block_lt_of_cell? w _ (h.cell ad e 0 _ (List.getElem?_eq_getElem hx))
  rwa [addr_block] at this
end Sl

/-- A row of the call's own, one cell an element. -/
def Ow (w : World) (base : Nat) (e : TypeId) (v : Value) (xs : List Value) : Prop := w.ownsRow base e 1 v xs.length xs
namespace Ow
variable {w w' : World} {base : Nat} {e : TypeId} {v : Value} {xs : List Value}
theorem nil (w : World) (base : Nat) (e : TypeId) : Ow w base e (.slice none 0 0) [] := World.ownsRow_nil w base e 1
theorem sl (h : Ow w base e v xs) : ∃ A c, v = .slice A xs.length c ∧ Sl w A c xs ∧ ∀ ad, A = some ad → base ≤ ad.block ∧ v.ownBlock = some ad.block := by
  rcases h.2 with ⟨rfl, h0⟩ | ⟨g, cap, cur, hv, hb, hg, hn, hm, hs, ht⟩
  · have : xs = [] := List.eq_nil_of_length_eq_zero h0
    subst this
    exact ⟨none, 0, rfl, Sl.none_ w, fun _ e => by cases e⟩
  · refine ⟨some ⟨g, 0, none⟩, cap, hv, ⟨hn, by unfold maxLen at hm; omega, fun e => (by cases e), fun ad e j u hu => ?_⟩, fun ad e => ?_⟩
    · cases e
      exact World.ownsRow.cells h (g := g) (by rw [hv]; rfl) j u hu
    · cases e
      exact ⟨hb, by rw [hv]; rfl⟩
theorem kept {row : Option Nat} (h : Ow w base e v xs) (hg : w.grownBy w' row) (hne : v.ownBlock = none ∨ v.ownBlock ≠ row) : Ow w' base e v xs := World.ownsRow.kept h hg hne
theorem alloc (h : Ow w base e v xs) (o : Obj) : Ow (w.alloc o) base e v xs := World.ownsRow.alloc h o
theorem lt (h : Ow w base e v xs) : ∀ k, v.ownBlock = some k → base ≤ k ∧ k < w.heap.size := World.ownsRow.lt h
theorem far (h : Ow w base e v xs) {a : Addr} (ha : v.ownBlock ≠ some a.block) (u : Value) : Ow (w.setCell a u) base e v xs := by
  refine h.kept (row := some a.block) ⟨rfl, rfl, rfl, by simp [World.setCell], fun k hk hne => ?_⟩ (.inr ha)
  simp only [World.setCell, Array.getElem?_modify]
  rw [if_neg (fun e => hne (by rw [e]))]
end Ow

section
variable {P : Program} (w : World)
end

/-- Below B nothing has turned but, it may be, block g. -/
structure Fr (B g : Nat) (w w' : World) : Prop where
  os : w'.os = w.os
  tape : w'.tape = w.tape
  output : w'.output = w.output
  size : w.heap.size ≤ w'.heap.size
  block : ∀ k, k < B → k ≠ g → w'.heap[k]? = w.heap[k]?
namespace Fr
variable {B g : Nat} {a w w' : World}
theorem refl (B g : Nat) (w : World) : Fr B g w w := ⟨rfl, rfl, rfl, Nat.le_refl _, fun _ _ _ => rfl⟩
theorem trans (h : Fr B g a w) (k : Fr B g w w') : Fr B g a w' := ⟨k.os.trans h.os, k.tape.trans h.tape, k.output.trans h.output, Nat.le_trans h.size k.size, fun i hi hn => (k.block i hi hn).trans (h.block i hi hn)⟩
theorem below {B' : Nat} (h : Fr B g w w') (h1 : B' ≤ B) (h2 : B' ≤ g) : Below B' w w' := ⟨h.os, h.tape, h.output, h.size, fun k hk => h.block k (by omega) (by omega)⟩
theorem of_below {B' : Nat} (h : Below B' w w') (hB : B ≤ B') : Fr B g w w' := ⟨h.os, h.tape, h.output, h.size, fun k hk _ => h.block k (by omega)⟩
theorem grown {row : Option Nat} (h : Fr B g a w) (hg : w.grownBy w' row) (hB : B ≤ w.heap.size) (hr : ∀ k, row = some k → B ≤ k ∨ k = g) : Fr B g a w' :=
  h.trans ⟨hg.os, hg.tape, hg.output, hg.size, fun k hk hn => hg.block k (by omega) (fun e => by rcases hr k e.symm with h | h <;> omega)⟩
theorem drew (h : Fr B g a w) : Fr B g a w.drew := ⟨h.os, h.tape, h.output, h.size, h.block⟩
theorem alloc (h : Fr B g a w) (hB : B ≤ w.heap.size) (o : Obj) : Fr B g a (w.alloc o) := h.trans (of_below ((Below.refl B w).alloc hB o) (Nat.le_refl _))
theorem setCell (h : Fr B g a w) {p : Addr} (hp : B ≤ p.block ∨ p.block = g) (u : Value) : Fr B g a (w.setCell p u) :=
  h.trans ⟨rfl, rfl, rfl, by simp [World.setCell], fun k hk hn => Below.heap_setCell _ _ _ _ (by rintro rfl; rcases hp with h | h <;> omega)⟩
theorem cell (h : Fr B g w w') {p : Addr} (h1 : p.block < B) (h2 : p.block ≠ g) : w'.cell? p = w.cell? p := World.cell?_of_block (w := w) (h.block p.block h1 h2)
theorem mono {B' : Nat} (h : Fr B g w w') (hB : B' ≤ B) : Fr B' g w w' := ⟨h.os, h.tape, h.output, h.size, fun k hk => h.block k (by omega)⟩
theorem sl {A : Option Addr} {c : Nat} {xs : List Value} (h : Fr B g w w') (hs : Sl w A c xs) (hA : ∀ ad, A = some ad → ad.block < B ∧ ad.block ≠ g) : Sl w' A c xs :=
  hs.keep fun a u hc ⟨ad, j, e, ea⟩ => (h.cell (by rw [ea, addr_block]; exact (hA ad e).1) (by rw [ea, addr_block]; exact (hA ad e).2)).trans hc
end Fr
theorem blk_cell {w : World} {g : Nat} {cs : Array Value} {t : TypeId} {fr : Nat × Nat} (h : w.heap[g]? = some (.cells cs t fr)) (j : Nat) : w.cell? ⟨g, j, none⟩ = cs[j]? := cell_of_row w g j cs t fr h
theorem blk_frozen {w : World} {g : Nat} {cs : Array Value} {t : TypeId} (h : w.heap[g]? = some (.cells cs t (0, 0))) (j : Nat) : w.frozen? ⟨g, j, none⟩ = false := frozen_of_row w g j cs t h
theorem blk_lt {w : World} {g : Nat} {o : Obj} (h : w.heap[g]? = some o) : g < w.heap.size := (Array.getElem?_eq_some_iff.1 h).1
theorem blk_set {w : World} {g : Nat} {cs : Array Value} {t : TypeId} (h : w.heap[g]? = some (.cells cs t (0, 0))) (i : Nat) (u : Value) : (w.setCell ⟨g, i, none⟩ u).heap[g]? = some (.cells (cs.setIfInBounds i u) t (0, 0)) := heap_setCell_same w g i cs t u h
theorem blk_far {w : World} {g : Nat} {o : Obj} (h : w.heap[g]? = some o) {p : Addr} (hne : g ≠ p.block) (u : Value) : (w.setCell p u).heap[g]? = some o := (Below.heap_setCell w p u g hne).trans h
theorem blk_alloc {w : World} {g : Nat} {o : Obj} (h : w.heap[g]? = some o) (b : Obj) : (w.alloc b).heap[g]? = some o := (Below.heap_alloc w b g (blk_lt h)).trans h
theorem blk_grown {w w' : World} {g : Nat} {o : Obj} (h : w.heap[g]? = some o) {row : Option Nat} (hg : w.grownBy w' row) (hne : row ≠ some g) : w'.heap[g]? = some o := (hg.block g (blk_lt h) (fun e => hne e.symm)).trans h
theorem blk_below {w w' : World} {g : Nat} {o : Obj} (h : w.heap[g]? = some o) (hb : Below w.heap.size w w') : w'.heap[g]? = some o := (hb.block g (blk_lt h)).trans h
end Go.Proofs.Ytmkcbbamfkafmaa
