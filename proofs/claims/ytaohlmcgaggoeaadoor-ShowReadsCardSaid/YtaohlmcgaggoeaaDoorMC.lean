/- Plain words on memory: rows of cells, lists that are read. No program in sight. -/
import Derived.WalkKit
import Derived.LoopTactic
import Derived.Deep.OwnRows
import Derived.Lib.Hide
import Derived.Deep.RegionHeld3
import Derived.Test.YtaohlmcgaggoeaaDoorProg
import Derived.Test.YtaohlmcgaggoeaaDoorMA
import Derived.BigQuiet
import Derived.Deep.QuietTactic
import Derived.Outline
import Derived.Maps.AppendAt
import Derived.Deep.AppendLies
import Derived.Lib.AppendStr
import Derived.RegionTactic
namespace Go.Proofs.YtaohlmcgaggoeaaDoor
open Go.RowKit

theorem four_get (f : Nat → Value) (j : Nat) (h : j < 4) : [f 0, f 1, f 2, f 3][j]? = some (f j) := by
  match j, h with
  | 0, _ => rfl
  | 1, _ => rfl
  | 2, _ => rfl
  | 3, _ => rfl

theorem row4 {w : World} {b : Nat} {t : TypeId} {f : Nat → Value} (h : w.rowIs b t 4 f) :
    w.cell? ⟨b, 0, none⟩ = some (f 0) ∧ w.cell? ⟨b, 1, none⟩ = some (f 1) ∧ w.cell? ⟨b, 2, none⟩ = some (f 2) ∧ w.cell? ⟨b, 3, none⟩ = some (f 3) ∧
      w.frozen? ⟨b, 0, none⟩ = false ∧ w.frozen? ⟨b, 1, none⟩ = false ∧ w.frozen? ⟨b, 2, none⟩ = false ∧ w.frozen? ⟨b, 3, none⟩ = false :=
  ⟨h.cell (by omega), h.cell (by omega), h.cell (by omega), h.cell (by omega), h.frozen _, h.frozen _, h.frozen _, h.frozen _⟩

theorem row4_lit {w : World} {b : Nat} {t : TypeId} {f : Nat → Value} (h : w.rowIs b t 4 f) : w.heap[b]? = some (.cells #[f 0, f 1, f 2, f 3] t (0, 0)) := by
  obtain ⟨c, hb, hn, hc⟩ := h
  rw [hb]
  congr 2
  apply Array.ext_getElem?
  intro i
  by_cases hi : i < 4
  · rw [hc i hi]
    have := four_get f i hi
    simpa using this.symm
  · rw [Array.getElem?_eq_none (by omega), Array.getElem?_eq_none (by simp; omega)]

/-- A new row of four, and one behind it. -/
theorem row4_new (w : World) (f : Nat → Value) (t : TypeId) : (w.alloc (.cells #[f 0, f 1, f 2, f 3] t)).rowIs w.heap.size t 4 f :=
  World.rowIs_alloc w #[f 0, f 1, f 2, f 3] t f (fun i hi => by have := four_get f i (by simpa using hi); simpa using this)
theorem size_alloc (w : World) (o : Obj) : (w.alloc o).heap.size = w.heap.size + 1 := by simp
theorem row4_new1 (w : World) (o : Obj) (f : Nat → Value) (t : TypeId) : ((w.alloc o).alloc (.cells #[f 0, f 1, f 2, f 3] t)).rowIs (w.heap.size + 1) t 4 f := by
  have := row4_new (w.alloc o) f t
  rwa [size_alloc] at this

theorem row_below {w w' : World} {b : Nat} {t : TypeId} {n : Nat} {f : Nat → Value} (h : w.rowIs b t n f) (hb : Below w.heap.size w w') : w'.rowIs b t n f := h.of_block (hb.block b h.lt)
theorem four_getE (f : Nat → Value) (j : Nat) (h : j < [f 0, f 1, f 2, f 3].length) : [f 0, f 1, f 2, f 3][j] = f j := by
  have := four_get f j h
  rw [List.getElem?_eq_getElem h] at this
  exact Option.some.inj this
theorem row_far4 {w : World} {b b2 : Nat} {t : TypeId} {n : Nat} {f : Nat → Value} (h : w.rowIs b t n f) (hne : b ≠ b2) (g : Nat → Value) :
    ((((w.setCell ⟨b2, 0, none⟩ (g 0)).setCell ⟨b2, 1, none⟩ (g 1)).setCell ⟨b2, 2, none⟩ (g 2)).setCell ⟨b2, 3, none⟩ (g 3)).rowIs b t n f :=
  (((h.setOther (by exact hne) _).setOther (by exact hne) _).setOther (by exact hne) _).setOther (by exact hne) _
/-- Four stores. -/
theorem row4_set {w : World} {b : Nat} {t : TypeId} {f : Nat → Value} (h : w.rowIs b t 4 f) (g : Nat → Value) :
    ((((w.setCell ⟨b, 0, none⟩ (g 0)).setCell ⟨b, 1, none⟩ (g 1)).setCell ⟨b, 2, none⟩ (g 2)).setCell ⟨b, 3, none⟩ (g 3)).rowIs b t 4 g :=
  ((((h.set 0 (g 0)).set 1 (g 1)).set 2 (g 2)).set 3 (g 3)).congr fun i hi => by
    match i, hi with
    | 0, _ => rfl
    | 1, _ => rfl
    | 2, _ => rfl
    | 3, _ => rfl
theorem below_set4 {B : Nat} {a w : World} (h : Below B a w) {b : Nat} (hb : B ≤ b) (g : Nat → Value) :
    Below B a ((((w.setCell ⟨b, 0, none⟩ (g 0)).setCell ⟨b, 1, none⟩ (g 1)).setCell ⟨b, 2, none⟩ (g 2)).setCell ⟨b, 3, none⟩ (g 3)) :=
  (((h.setCell (by exact hb) _).setCell (by exact hb) _).setCell (by exact hb) _).setCell (by exact hb) _

/-- The end of a function whose one result is an array of four in a block of its own. -/
theorem post_row4 {P : Program} {fn : Func} {R : Ending → World → Prop} {a : Act} {w : World} {t : Tmp} {T e : TypeId} {b : Nat} {f : Nat → Value} (hr : fn.results = #[.cell t T])
    (hp : a.tmps.getD t undef = .pointer (some ⟨b, 0, none⟩)) (hrow : w.rowIs b T 4 f) (hu : P.underlying T = some (.array 4 e)) (hi : (P.info? T).map (·.size) = some 4) (hd : a.defers = [])
    (hR : R (.returned (.agg #[f 0, f 1, f 2, f 3])) w) : bodyPost P fn R .ret a w :=
  bodyPost_ret (results_cell_row hr _ w b T #[f 0, f 1, f 2, f 3] (0, 0) _ hp (row4_lit hrow) hu rfl hi) hd hR

/-- A row that is turned cell by cell. -/
theorem row_step {w : World} {b : Nat} {t : TypeId} {n k : Nat} {f g : Nat → Value} (h : w.rowIs b t n (fun j => if j < k then g j else f j)) {v : Value} (hv : v = g k) :
    (w.setCell ⟨b, k, none⟩ v).rowIs b t n (fun j => if j < k + 1 then g j else f j) :=
  (h.set k v).congr fun i _ => by
    subst hv
    by_cases e : i = k
    · subst e; simp
    · by_cases e2 : i < k
      · simp [e, e2, Nat.lt_succ_of_lt e2]
      · simp [e, e2, show ¬ i < k + 1 by omega]
theorem row_at {w : World} {b : Nat} {t : TypeId} {n k : Nat} {f g : Nat → Value} (h : w.rowIs b t n (fun j => if j < k then g j else f j)) (hk : k < n) : w.cell? ⟨b, k, none⟩ = some (f k) := by
  have := h.cell hk
  simpa using this
theorem row_all {w : World} {b : Nat} {t : TypeId} {n k : Nat} {f g : Nat → Value} (h : w.rowIs b t n (fun j => if j < k then g j else f j)) (hk : n ≤ k) : w.rowIs b t n g :=
  h.congr fun i hi => by simp [show i < k by omega]

/-- A slice that reads as a list of numbers. -/
def RdI (w : World) (k : IntKind) (A : Option Addr) (l : List Int) : Prop :=
  l.length ≤ 9223372036854775807 ∧ (0 < l.length → ∃ ad, A = some ad ∧ ∀ j, j < l.length → w.cell? (ad.add j) = some (.int k (l.getD j 0)))
theorem RdI.below {w w' : World} {k : IntKind} {A : Option Addr} {l : List Int} (h : RdI w k A l) (hb : Below w.heap.size w w') : RdI w' k A l :=
  ⟨h.1, fun hn => by
    obtain ⟨ad, e, hc⟩ := h.2 hn
    exact ⟨ad, e, fun j hj => (hb.cell (World.block_lt_of_cell? w _ (hc j hj))).trans (hc j hj)⟩⟩

def Byt (l : List Int) : Prop := ∀ b, b ∈ l → 0 ≤ b ∧ b < 256
theorem Byt.at_ {l : List Int} (h : Byt l) {k : Nat} (hk : k < l.length) : 0 ≤ l.getD k 0 ∧ l.getD k 0 < 256 := by
  rw [List.getD_eq_getElem?_getD, List.getElem?_eq_getElem hk]
  exact h _ (List.getElem_mem hk)
theorem mem_take_succ {l : List Int} {k : Nat} (hk : k < l.length) (b : Int) : b ∈ l.take (k + 1) ↔ b ∈ l.take k ∨ b = l.getD k 0 := by
  rw [List.getD_eq_getElem?_getD, List.getElem?_eq_getElem hk]
  rw [show l.take (k + 1) = l.take k ++ [l[k]] by simp]
  simp only [List.mem_append, List.mem_singleton, Option.getD_some]
theorem ext_trans {a b c : World} (h : Below a.heap.size a b) (k : Below b.heap.size b c) : Below a.heap.size a c := h.trans (k.mono h.size)
theorem ext_alloc {a b : World} (h : Below a.heap.size a b) (o : Obj) : Below a.heap.size a (b.alloc o) := h.alloc h.size o
theorem ext_refl (a : World) : Below a.heap.size a a := Below.refl _ _
theorem ext_new (a : World) (o : Obj) : Below a.heap.size a (a.alloc o) := ext_alloc (ext_refl a) o
theorem rdI_new (w : World) (k : IntKind) (n : Int) (t : TypeId) : RdI (w.alloc (.cells #[.int k n] t)) k (some ⟨w.heap.size, 0, none⟩) [n] :=
  ⟨by simp, fun _ => ⟨_, rfl, fun j hj => by
    obtain rfl : j = 0 := by simp at hj; omega
    simp [Addr.add]⟩⟩
/-- Cells as a list. -/
def cellsOf (n : Nat) (f : Nat → Value) : List Value := (List.range n).map f
/-- The cells that a walk has told of an address. -/
noncomputable def seenAt (w : World) (a : Addr) (n : Nat) : Option (Array Value) :=
  open Classical in if h : ∃ cs : List Value, cs.length = n ∧ a = ⟨a.block, a.off, none⟩ ∧ w.rangeAt a.block a.off cs then some h.choose.toArray else none
theorem seenAt_of {w : World} {b o n : Nat} {cs : List Value} (h : w.rangeAt b o cs) (hl : cs.length = n) : seenAt w ⟨b, o, none⟩ n = some cs.toArray := by
  have hex : ∃ cs : List Value, cs.length = n ∧ (⟨b, o, none⟩ : Addr) = ⟨b, o, none⟩ ∧ w.rangeAt b o cs := ⟨cs, hl, rfl, h⟩
  unfold seenAt
  rw [dif_pos hex]
  obtain ⟨h1, _, h2⟩ := hex.choose_spec
  generalize hex.choose = ds at h1 h2
  congr 2
  apply List.ext_getElem?
  intro i
  by_cases hi : i < n
  · have e1 : ds[i]? = some (ds[i]'(by omega)) := List.getElem?_eq_getElem (by omega)
    have e2 : cs[i]? = some (cs[i]'(by omega)) := List.getElem?_eq_getElem (by omega)
    have := (h2 i _ e1).symm.trans (h i _ e2)
    rw [e1, e2, this]
  · rw [List.getElem?_eq_none (by omega), List.getElem?_eq_none (by omega)]
end Go.Proofs.YtaohlmcgaggoeaaDoor
/- The walks of the functions on classes of bytes. -/
namespace Go.Proofs.YtaohlmcgaggoeaaDoor
open Go.RowKit

/-- The value of a class. -/
def RetC (Q : (Nat → Int) → Prop) (w : World) (e : Ending) (w' : World) : Prop :=
  ∃ x : Nat → Int, e = .returned (.agg #[.int .u64 (x 0), .int .u64 (x 1), .int .u64 (x 2), .int .u64 (x 3)]) ∧ W64 x ∧ Q x ∧ Below w.heap.size w w'

theorem has_empty (b : Nat) : hasB (fun _ => 0) b = false := by simp [hasB]
theorem w64_zero : W64 (fun _ => 0) := fun _ _ => ⟨Int.le_refl _, by show (0 : Int) < U64; unfold U64; decide⟩

set_option maxHeartbeats 400000 in
theorem of_any (l : List Int) (A : Option Addr) (c : Nat) (w : World) (hr : RdI w .u8 A l) (hl : Byt l) :
    Calls Tryd.prog 45 #[.slice A l.length c] w (RetC (fun x => ∀ b, b < 256 → hasB x b = memB l b) w) := by
  have hlen := hr.1
  go_enter Tryd.func45, Tryd.ntmps45
  go_wp2
  go_loopw [8] (fun i wr => ∃ (k : Nat) (x : Nat → Int), k ≤ l.length ∧ i = .int .i64 k ∧ W64 x ∧ Hid (∀ b, b < 256 → hasB x b = decide ((b : Int) ∈ l.take k)) ∧
      wr.rowIs (w.heap.size + 1) 24 4 (fun j => .int .u64 (x j)) ∧ wr.rowIs w.heap.size 24 4 (fun _ => .int .u64 0) ∧ Below w.heap.size w wr) (fun i _ => l.length - (intOf i).toNat)
  case atStart => 
    refine ⟨0, fun _ => 0, Nat.zero_le _, rfl, w64_zero, fun b _ => by rw [has_empty]; simp, ?_, ?_, ?_⟩
    · exact row4_new1 w _ (fun _ => .int .u64 0) _
    · exact (row4_new w (fun _ => .int .u64 0) _).alloc _
    · exact ((Below.refl _ _).alloc (Nat.le_refl _) _).alloc (by simp) _
  case round =>
    obtain ⟨k, x, hk, rfl, hx, hh, hrow, hres, hb⟩ := hrel
    by_cases hlt : k < l.length
    · obtain ⟨ad, rfl, hc⟩ := hr.2 (by omega)
      have hb0 := hl.at_ hlt
      have hck := (hb.cell (World.block_lt_of_cell? w _ (hc k hlt))).trans (hc k hlt)
      clear hc
      obtain ⟨b, hbe⟩ : ∃ b, b = l.getD k 0 := ⟨_, rfl⟩
      rw [← hbe] at hb0 hck
      obtain ⟨hb1, hb2⟩ := hb0
      have Hbe := Lib.hid hbe
      clear hbe
      have hcc := hrow.cell (i := (b / 64).toNat) (by omega)
      have hfz := hrow.frozen (b / 64).toNat
      go_wp2
      have ⟨hw, hs⟩ := or_step hx hb1 hb2
      go_roundw
      case rel =>
        refine ⟨k + 1, setW x _ _, by omega, by go_num, hw, ?_, (hrow.set _ _).congr fun i _ => ?_, hres.setOther (by simp) _, hb.setCell (by simp) _⟩
        · intro q hq
          rw [hs q hq, hh.out q hq]
          have := mem_take_succ hlt (q : Int)
          rw [← Hbe.out] at this
          simp only [this, Bool.decide_or]
        · unfold setW; split <;> rfl
      case measure => simp [intOf]; omega
    · obtain ⟨c0, c1, c2, c3, _⟩ := row4 hrow
      obtain ⟨r0, r1, r2, r3, f0, f1, f2, f3⟩ := row4 hres
      go_wp2
      refine post_row4 (t := 2) (T := 24) (b := w.heap.size) (f := fun j => .int .u64 (x j)) Tryd.results45 rfl (row4_set hres (fun j => .int .u64 (x j))) Tryd.underlying24 (by kernel_rfl) rfl ?_
      refine ⟨x, rfl, hx, ?_, below_set4 hb (Nat.le_refl _) (fun j => .int .u64 (x j))⟩
      have := hh.out
      rw [List.take_of_length_le (by omega)] at this
      exact this

set_option maxHeartbeats 400000 in
theorem range_any (lo hi : Int) (h1 : 0 ≤ lo) (h2 : lo < 256) (h3 : 0 ≤ hi) (h4 : hi < 256) (w : World) :
    Calls Tryd.prog 43 #[.int .u8 lo, .int .u8 hi] w (RetC (fun x => ∀ b : Nat, b < 256 → hasB x b = inR lo hi b) w) := by
  go_enter Tryd.func43, Tryd.ntmps43
  go_wp2
  go_loopw [6] (fun i wr => ∃ (k : Nat) (x : Nat → Int), lo ≤ k ∧ (k : Int) ≤ hi + 1 + lo ∧ i = .int .i64 k ∧ W64 x ∧ Hid (∀ b : Nat, b < 256 → hasB x b = decide (lo ≤ b ∧ (b : Int) < k)) ∧ ((k : Int) ≤ hi + 1 ∨ (k : Int) = lo) ∧
      wr.rowIs (w.heap.size + 1) 24 4 (fun j => .int .u64 (x j)) ∧ wr.rowIs w.heap.size 24 4 (fun _ => .int .u64 0) ∧ Below w.heap.size w wr) (fun i _ => 256 - (intOf i).toNat)
  case atStart =>
    refine ⟨lo.toNat, fun _ => 0, by omega, by omega, by rw [Int.toNat_of_nonneg h1], w64_zero, fun b _ => ?_, by omega, ?_, ?_, ?_⟩
    · rw [has_empty, eq_comm, decide_eq_false_iff_not]; omega
    · exact row4_new1 w _ (fun _ => .int .u64 0) _
    · exact (row4_new w (fun _ => .int .u64 0) _).alloc _
    · exact ((Below.refl _ _).alloc (Nat.le_refl _) _).alloc (by simp) _
  case round =>
    obtain ⟨k, x, hk1, hk2, rfl, hx, hh, hor, hrow, hres, hb⟩ := hrel
    by_cases hlt : (k : Int) ≤ hi
    · have hcc := hrow.cell (i := ((k : Int) / 64).toNat) (by omega)
      have hfz := hrow.frozen ((k : Int) / 64).toNat
      have hand := and63 (k := k) (by omega) (by omega)
      have hq0 : 0 ≤ (k : Int) / 64 := by omega
      have hq4 : (k : Int) / 64 < 4 := by omega
      have hm0 : 0 ≤ (k : Int) % 64 := by omega
      clear hor
      go_wp2
      go_region
      go_wp2
      have ⟨hw, hs⟩ := or_step hx (b := k) (by omega) (by omega)
      go_roundw
      case rel =>
        refine ⟨k + 1, setW x _ _, by omega, by omega, by go_num, hw, ?_, by omega, ((hrow.set _ _).congr fun i _ => ?_).drew, (hres.setOther (by simp) _).drew, (hb.setCell (by simp) _).drew⟩
        · intro q hq
          rw [hs q hq, hh.out q hq, ← Bool.decide_or]
          apply decide_eq_decide.2
          omega
        · simp only [setW, show ((k : Int) / 64).toNat = k / 64 by omega, show ((k : Int) % 64).toNat = k % 64 by omega]
          split <;> rfl
      case measure => simp [intOf]; omega
    · obtain ⟨c0, c1, c2, c3, _⟩ := row4 hrow
      obtain ⟨r0, r1, r2, r3, f0, f1, f2, f3⟩ := row4 hres
      go_wp2
      refine post_row4 (t := 4) (T := 24) (b := w.heap.size) (f := fun j => .int .u64 (x j)) Tryd.results43 rfl (row4_set hres (fun j => .int .u64 (x j))) Tryd.underlying24 (by kernel_rfl) rfl ?_
      refine ⟨x, rfl, hx, ?_, below_set4 hb (Nat.le_refl _) (fun j => .int .u64 (x j))⟩
      intro q hq
      rw [hh.out q hq]
      unfold inR
      apply decide_eq_decide.2
      omega

theorem not_any (x : Nat → Int) (w : World) :
    Calls Tryd.prog 61 #[.agg #[.int .u64 (x 0), .int .u64 (x 1), .int .u64 (x 2), .int .u64 (x 3)]] w fun e w' => e = .returned (.agg #[.int .u64 (notw (x 0)), .int .u64 (notw (x 1)), .int .u64 (notw (x 2)), .int .u64 (notw (x 3))]) ∧ Below w.heap.size w w' := by
  go_enter Tryd.func61, Tryd.ntmps61
  go_wp2
  go_loopw [4] (fun i wr => ∃ k : Nat, k ≤ 4 ∧ i = .int .i64 k ∧
      wr.rowIs w.heap.size 24 4 (fun j => if j < k then .int .u64 (notw (x j)) else .int .u64 (x j)) ∧ wr.rowIs (w.heap.size + 1) 24 4 (fun _ => .int .u64 0) ∧ Below w.heap.size w wr) (fun i _ => 4 - (intOf i).toNat)
  case atStart =>
    refine ⟨0, by omega, rfl, ?_, ?_, ?_⟩
    · exact (row4_new w (fun j => .int .u64 (x j)) _).alloc _
    · exact row4_new1 w _ (fun _ => .int .u64 0) _
    · exact ((Below.refl _ _).alloc (Nat.le_refl _) _).alloc (by simp) _
  case round =>
    obtain ⟨k, hk, rfl, hrow, hres, hb⟩ := hrel
    by_cases hlt : k < 4
    · have hcc := row_at hrow hlt
      have hfz := hrow.frozen k
      go_wp2
      go_roundw
      case rel => exact ⟨k + 1, by omega, by go_num, row_step hrow (by rw [notw_eq]), hres.setOther (by simp) _, hb.setCell (Nat.le_refl _) _⟩
      case measure => simp [intOf]; omega
    · have hrow' := row_all hrow (by omega)
      clear hrow
      obtain ⟨c0, c1, c2, c3, _⟩ := row4 hrow'
      obtain ⟨r0, r1, r2, r3, f0, f1, f2, f3⟩ := row4 hres
      go_wp2
      refine post_row4 (t := 2) (T := 24) (b := w.heap.size + 1) (f := fun j => .int .u64 (notw (x j))) Tryd.results61 rfl (row4_set hres (fun j => .int .u64 (notw (x j)))) Tryd.underlying24 (by kernel_rfl) rfl ?_
      exact ⟨rfl, below_set4 hb (Nat.le_succ _) (fun j => .int .u64 (notw (x j)))⟩

set_option maxHeartbeats 400000 in
theorem or_any (x y : Nat → Int) (w : World) :
    Calls Tryd.prog 60 #[.agg #[.int .u64 (x 0), .int .u64 (x 1), .int .u64 (x 2), .int .u64 (x 3)], .agg #[.int .u64 (y 0), .int .u64 (y 1), .int .u64 (y 2), .int .u64 (y 3)]] w fun e w' => e = .returned (.agg #[.int .u64 (orw (x 0) (y 0)), .int .u64 (orw (x 1) (y 1)), .int .u64 (orw (x 2) (y 2)), .int .u64 (orw (x 3) (y 3))]) ∧ Below w.heap.size w w' := by
  go_enter Tryd.func60, Tryd.ntmps60
  go_wp2
  go_loopw [6] (fun i wr => ∃ k : Nat, k ≤ 4 ∧ i = .int .i64 k ∧
      wr.rowIs w.heap.size 24 4 (fun j => if j < k then .int .u64 (orw (x j) (y j)) else .int .u64 (x j)) ∧ wr.rowIs (w.heap.size + 1) 24 4 (fun j => .int .u64 (y j)) ∧
      wr.rowIs (w.heap.size + 1 + 1) 24 4 (fun _ => .int .u64 0) ∧ Below w.heap.size w wr) (fun i _ => 4 - (intOf i).toNat)
  case atStart =>
    refine ⟨0, by omega, rfl, ?_, ?_, ?_, ?_⟩
    · exact ((row4_new w (fun j => .int .u64 (x j)) _).alloc _).alloc _
    · exact (row4_new1 w _ (fun j => .int .u64 (y j)) _).alloc _
    · have := row4_new1 (w.alloc (.cells #[.int .u64 (x 0), .int .u64 (x 1), .int .u64 (x 2), .int .u64 (x 3)] 24)) (.cells #[.int .u64 (y 0), .int .u64 (y 1), .int .u64 (y 2), .int .u64 (y 3)] 24) (fun _ => .int .u64 0) 24
      rwa [size_alloc] at this
    · exact (((Below.refl _ _).alloc (Nat.le_refl _) _).alloc (by simp) _).alloc (by simp; omega) _
  case round =>
    obtain ⟨k, hk, rfl, hrow, hrow2, hres, hb⟩ := hrel
    by_cases hlt : k < 4
    · have hcc := row_at hrow hlt
      have hfz := hrow.frozen k
      have hcd := hrow2.cell hlt
      go_wp2
      go_region
      go_wp2
      go_roundw
      case rel => exact ⟨k + 1, by omega, by go_num, (row_step hrow rfl).drew, (hrow2.setOther (by simp) _).drew, (hres.setOther (by simp; omega) _).drew, (hb.setCell (Nat.le_refl _) _).drew⟩
      case measure => simp [intOf]; omega
    · have hrow' := row_all hrow (by omega)
      clear hrow
      obtain ⟨c0, c1, c2, c3, _⟩ := row4 hrow'
      obtain ⟨r0, r1, r2, r3, f0, f1, f2, f3⟩ := row4 hres
      go_wp2
      refine post_row4 (t := 4) (T := 24) (b := w.heap.size + 1 + 1) (f := fun j => .int .u64 (orw (x j) (y j))) Tryd.results60 rfl (row4_set hres (fun j => .int .u64 (orw (x j) (y j)))) Tryd.underlying24 (by kernel_rfl) rfl ?_
      exact ⟨rfl, below_set4 hb (by omega) (fun j => .int .u64 (orw (x j) (y j)))⟩

theorem rhas_any (x : Nat → Int) (hx : W64 x) (b : Int) (h0 : 0 ≤ b) (h1 : b < 256) (w : World) :
    Calls Tryd.prog 38 #[.agg #[.int .u64 (x 0), .int .u64 (x 1), .int .u64 (x 2), .int .u64 (x 3)], .int .i64 b] w fun e w' => e = .returned (.bool (hasB x b.toNat)) ∧ Below w.heap.size w w' := by
  have hc := four_get (fun j => .int .u64 (x j)) (b / 64).toNat (by omega)
  have hq0 : 0 ≤ b / 64 := by omega
  have hq4 : b / 64 < 4 := by omega
  go_enter Tryd.func38, Tryd.ntmps38
  go_wp2
  go_loop [5, 6] (fun v i => ∃ k : Nat, (k : Int) ≤ b % 64 ∧ i = .int .i64 k ∧ v = .int .u64 (x (b / 64).toNat / 2 ^ k)) (fun _ i => 64 - (intOf i).toNat)
  case atStart => exact ⟨0, by omega, rfl, by rw [four_getE (fun j => .int .u64 (x j))]; simp⟩
  case round =>
    obtain ⟨k, hk, rfl, rfl⟩ := hrel
    have hw := hx (b / 64).toNat (by omega)
    by_cases hlt : (k : Int) < b % 64
    · go_wp2
      go_round
      case rel => exact ⟨k + 1, by omega, by go_num, by rw [half_step hw.1 hw.2]⟩
      case measure => simp [intOf]; omega
    · go_wp2
      go_ret
      refine ⟨?_, (Below.refl _ _).alloc (Nat.le_refl _) _⟩
      have e := odd_spelt hw.1 hw.2 k
      simp only [hasB]
      rw [show b.toNat / 64 = (b / 64).toNat by omega, show b.toNat % 64 = k by omega, ← e]
      rfl



theorem index4_0 (x : Nat → Int) (w : World) : (Instr.index 24 (.agg #[.int .u64 (x 0), .int .u64 (x 1), .int .u64 (x 2), .int .u64 (x 3)]) (.int .i64 0)).run Tryd.prog w = .ok (.int .u64 (x 0)) w := by kernel_rfl
theorem index4_1 (x : Nat → Int) (w : World) : (Instr.index 24 (.agg #[.int .u64 (x 0), .int .u64 (x 1), .int .u64 (x 2), .int .u64 (x 3)]) (.int .i64 1)).run Tryd.prog w = .ok (.int .u64 (x 1)) w := by kernel_rfl
theorem index4_2 (x : Nat → Int) (w : World) : (Instr.index 24 (.agg #[.int .u64 (x 0), .int .u64 (x 1), .int .u64 (x 2), .int .u64 (x 3)]) (.int .i64 2)).run Tryd.prog w = .ok (.int .u64 (x 2)) w := by kernel_rfl
theorem index4_3 (x : Nat → Int) (w : World) : (Instr.index 24 (.agg #[.int .u64 (x 0), .int .u64 (x 1), .int .u64 (x 2), .int .u64 (x 3)]) (.int .i64 3)).run Tryd.prog w = .ok (.int .u64 (x 3)) w := by kernel_rfl
theorem index4 (x : Nat → Int) (k : Nat) (hk : k < 4) (w : World) : (Instr.index 24 (.agg #[.int .u64 (x 0), .int .u64 (x 1), .int .u64 (x 2), .int .u64 (x 3)]) (.int .i64 k)).run Tryd.prog w = .ok (.int .u64 (x k)) w := by
  have h : k = 0 ∨ k = 1 ∨ k = 2 ∨ k = 3 := by omega
  rcases h with rfl | rfl | rfl | rfl
  · exact index4_0 x w
  · exact index4_1 x w
  · exact index4_2 x w
  · exact index4_3 x w

theorem retC_v {Q : (Nat → Int) → Prop} {f : Nat → Bool} (hQ : ∀ x, Q x → ∀ b : Nat, b < 256 → hasB x b = f b) {w : World} {e : Ending} {w' : World} (h : RetC Q w e w') :
    e = .returned (.agg #[.int .u64 (clsOf f 0), .int .u64 (clsOf f 1), .int .u64 (clsOf f 2), .int .u64 (clsOf f 3)]) ∧ Below w.heap.size w w' := by
  obtain ⟨x, rfl, hx, hq, hb⟩ := h
  have := clsOf_eq hx (hQ x hq)
  rw [this 0 (by omega), this 1 (by omega), this 2 (by omega), this 3 (by omega)]
  exact ⟨rfl, hb⟩
theorem of_v (l : List Int) (A : Option Addr) (c : Nat) (w : World) (hr : RdI w .u8 A l) (hl : Byt l) :
    Calls Tryd.prog 45 #[.slice A l.length c] w fun e w' => e = .returned (.agg #[.int .u64 (clsOf (memB l) 0), .int .u64 (clsOf (memB l) 1), .int .u64 (clsOf (memB l) 2), .int .u64 (clsOf (memB l) 3)]) ∧ Below w.heap.size w w' :=
  (of_any l A c w hr hl).mono fun _ _ h => retC_v (fun _ h => h) h
theorem range_v (lo hi : Int) (h1 : 0 ≤ lo) (h2 : lo < 256) (h3 : 0 ≤ hi) (h4 : hi < 256) (w : World) :
    Calls Tryd.prog 43 #[.int .u8 lo, .int .u8 hi] w fun e w' => e = .returned (.agg #[.int .u64 (clsOf (inR lo hi) 0), .int .u64 (clsOf (inR lo hi) 1), .int .u64 (clsOf (inR lo hi) 2), .int .u64 (clsOf (inR lo hi) 3)]) ∧ Below w.heap.size w w' :=
  (range_any lo hi h1 h2 h3 h4 w).mono fun _ _ h => retC_v (fun _ h => h) h

end Go.Proofs.YtaohlmcgaggoeaaDoor
/- Plain words on memory: slices of one-cell elements that are read, rows of the call's own that are appended to, frames with one block let out. No program in sight. -/
namespace Go.Proofs.YtaohlmcgaggoeaaDoor
open Go.RowKit

theorem addr_block (a : Addr) (n : Nat) : (a.add n).block = a.block := by unfold Addr.add; split <;> rfl
theorem addr_add_add (a : Addr) (i j : Nat) : (a.add i).add j = a.add (i + j) := by
  unfold Addr.add
  by_cases hi : i = 0 <;> by_cases hj : j = 0 <;> simp [hi, hj, Nat.add_assoc]

/-- The slice of address A and capacity c holds the cells xs. -/
structure Sl (w : World) (A : Option Addr) (c : Nat) (xs : List Value) : Prop where
  cap : xs.length ≤ c
  max : c ≤ 9223372036854775807
  nil : A = none → c = 0
  cell : ∀ ad, A = some ad → ∀ j u, xs[j]? = some u → w.cell? (ad.add j) = some u
namespace Sl
variable {w w' : World} {A : Option Addr} {c : Nat} {xs : List Value}
theorem none_ (w : World) : Sl w none 0 [] := ⟨Nat.le_refl _, by omega, fun _ => rfl, fun _ h => by cases h⟩
theorem at_ (h : Sl w A c xs) {k : Nat} (hk : k < xs.length) : ∃ ad, A = some ad ∧ w.cell? (ad.add k) = some xs[k] := by
  cases A with
  | none => have := h.nil rfl; have := h.cap; omega
  | some ad => exact ⟨ad, rfl, h.cell ad rfl k _ (List.getElem?_eq_getElem hk)⟩
theorem keep (h : Sl w A c xs) (hk : ∀ a u, w.cell? a = some u → (∃ ad j, A = some ad ∧ a = ad.add j) → w'.cell? a = some u) : Sl w' A c xs :=
  ⟨h.cap, h.max, h.nil, fun ad e j u hu => hk _ _ (h.cell ad e j u hu) ⟨ad, j, e, rfl⟩⟩
theorem below (h : Sl w A c xs) (hb : Below w.heap.size w w') : Sl w' A c xs :=
  h.keep fun a u hc _ => (hb.cell (World.block_lt_of_cell? w a hc)).trans hc
theorem grown (h : Sl w A c xs) {row : Option Nat} (hg : w.grownBy w' row) (hne : ∀ ad, A = some ad → some ad.block ≠ row) : Sl w' A c xs :=
  h.keep fun a u hc ⟨ad, j, e, ea⟩ => hg.cell hc (by rw [ea, addr_block]; exact hne ad e)
theorem set (h : Sl w A c xs) {p : Addr} (hne : ∀ ad, A = some ad → xs ≠ [] → ad.block ≠ p.block) (u : Value) : Sl (w.setCell p u) A c xs :=
  ⟨h.cap, h.max, h.nil, fun ad e j v hv => by
    have hx : xs ≠ [] := by
      rintro rfl
      simp at hv
    have hc := h.cell ad e j v hv
    exact (World.cell?_of_block (w := w) (Below.heap_setCell w p u (ad.add j).block (by rw [addr_block]; exact hne ad e hx))).trans hc⟩
theorem alloc (h : Sl w A c xs) (o : Obj) : Sl (w.alloc o) A c xs := h.below ((Below.refl _ w).alloc (Nat.le_refl _) o)
theorem drew (h : Sl w A c xs) : Sl w.drew A c xs := ⟨h.cap, h.max, h.nil, h.cell⟩
theorem take (h : Sl w A c xs) (k : Nat) : Sl w A c (xs.take k) :=
  ⟨by have := h.cap; rw [List.length_take]; omega, h.max, h.nil, fun ad e j u hu => h.cell ad e j u (by
    rw [List.getElem?_take] at hu
    split at hu
    · exact hu
    · cases hu)⟩
theorem drop (h : Sl w A c xs) {k : Nat} (hk : k ≤ xs.length) : Sl w (if c = k then A else A.map (·.add k)) (c - k) (xs.drop k) := by
  have := h.cap; have := h.max
  refine ⟨by rw [List.length_drop]; omega, by omega, fun e => ?_, fun ad e j u hu => ?_⟩
  · by_cases hck : c = k
    · omega
    · rw [if_neg hck] at e
      cases A with
      | none => have := h.nil rfl; omega
      | some a => cases e
  · rw [List.getElem?_drop] at hu
    have hj : k + j < xs.length := (List.getElem?_eq_some_iff.1 hu).1
    rw [if_neg (by omega)] at e
    cases A with
    | none => cases e
    | some a =>
      simp only [Option.map_some, Option.some.injEq] at e
      subst e
      rw [addr_add_add]
      exact h.cell a rfl _ u hu
theorem lt (h : Sl w A c xs) (hx : 0 < xs.length) : ∀ ad, A = some ad → ad.block < w.heap.size := fun ad e => by
  have := World.block_lt_of_cell? w _ (h.cell ad e 0 _ (List.getElem?_eq_getElem hx))
  rwa [addr_block] at this
end Sl

/-- A row of the call's own, one cell an element. -/
def Ow (w : World) (base : Nat) (e : TypeId) (v : Value) (xs : List Value) : Prop := w.ownsRow base e 1 v xs.length xs
namespace Ow
variable {w w' : World} {base : Nat} {e : TypeId} {v : Value} {xs : List Value}
theorem nil (w : World) (base : Nat) (e : TypeId) : Ow w base e (.slice none 0 0) [] := World.ownsRow_nil w base e 1
theorem sl (h : Ow w base e v xs) : ∃ A c, v = .slice A xs.length c ∧ Sl w A c xs ∧ ∀ ad, A = some ad → base ≤ ad.block ∧ v.ownBlock = some ad.block := by
  rcases h.2 with ⟨rfl, h0⟩ | ⟨g, cap, cur, hv, hb, hg, hn, hm, hs, ht⟩
  · have : xs = [] := List.eq_nil_of_length_eq_zero h0
    subst this
    exact ⟨none, 0, rfl, Sl.none_ w, fun _ e => by cases e⟩
  · refine ⟨some ⟨g, 0, none⟩, cap, hv, ⟨hn, by unfold maxLen at hm; omega, fun e => (by cases e), fun ad e j u hu => ?_⟩, fun ad e => ?_⟩
    · cases e
      exact World.ownsRow.cells h (g := g) (by rw [hv]; rfl) j u hu
    · cases e
      exact ⟨hb, by rw [hv]; rfl⟩
theorem kept {row : Option Nat} (h : Ow w base e v xs) (hg : w.grownBy w' row) (hne : v.ownBlock = none ∨ v.ownBlock ≠ row) : Ow w' base e v xs := World.ownsRow.kept h hg hne
theorem alloc (h : Ow w base e v xs) (o : Obj) : Ow (w.alloc o) base e v xs := World.ownsRow.alloc h o
theorem lt (h : Ow w base e v xs) : ∀ k, v.ownBlock = some k → base ≤ k ∧ k < w.heap.size := World.ownsRow.lt h
theorem far (h : Ow w base e v xs) {a : Addr} (ha : v.ownBlock ≠ some a.block) (u : Value) : Ow (w.setCell a u) base e v xs := by
  refine h.kept (row := some a.block) ⟨rfl, rfl, rfl, by simp [World.setCell], fun k hk hne => ?_⟩ (.inr ha)
  simp only [World.setCell, Array.getElem?_modify]
  rw [if_neg (fun e => hne (by rw [e]))]
end Ow

section
variable {P : Program} (w : World)
end

/-- Below B nothing has turned but, it may be, block g. -/
structure Fr (B g : Nat) (w w' : World) : Prop where
  os : w'.os = w.os
  tape : w'.tape = w.tape
  output : w'.output = w.output
  size : w.heap.size ≤ w'.heap.size
  block : ∀ k, k < B → k ≠ g → w'.heap[k]? = w.heap[k]?
namespace Fr
variable {B g : Nat} {a w w' : World}
theorem refl (B g : Nat) (w : World) : Fr B g w w := ⟨rfl, rfl, rfl, Nat.le_refl _, fun _ _ _ => rfl⟩
theorem trans (h : Fr B g a w) (k : Fr B g w w') : Fr B g a w' := ⟨k.os.trans h.os, k.tape.trans h.tape, k.output.trans h.output, Nat.le_trans h.size k.size, fun i hi hn => (k.block i hi hn).trans (h.block i hi hn)⟩
theorem below {B' : Nat} (h : Fr B g w w') (h1 : B' ≤ B) (h2 : B' ≤ g) : Below B' w w' := ⟨h.os, h.tape, h.output, h.size, fun k hk => h.block k (by omega) (by omega)⟩
theorem of_below {B' : Nat} (h : Below B' w w') (hB : B ≤ B') : Fr B g w w' := ⟨h.os, h.tape, h.output, h.size, fun k hk _ => h.block k (by omega)⟩
theorem grown {row : Option Nat} (h : Fr B g a w) (hg : w.grownBy w' row) (hB : B ≤ w.heap.size) (hr : ∀ k, row = some k → B ≤ k ∨ k = g) : Fr B g a w' :=
  h.trans ⟨hg.os, hg.tape, hg.output, hg.size, fun k hk hn => hg.block k (by omega) (fun e => by rcases hr k e.symm with h | h <;> omega)⟩
theorem drew (h : Fr B g a w) : Fr B g a w.drew := ⟨h.os, h.tape, h.output, h.size, h.block⟩
theorem alloc (h : Fr B g a w) (hB : B ≤ w.heap.size) (o : Obj) : Fr B g a (w.alloc o) := h.trans (of_below ((Below.refl B w).alloc hB o) (Nat.le_refl _))
theorem setCell (h : Fr B g a w) {p : Addr} (hp : B ≤ p.block ∨ p.block = g) (u : Value) : Fr B g a (w.setCell p u) :=
  h.trans ⟨rfl, rfl, rfl, by simp [World.setCell], fun k hk hn => Below.heap_setCell _ _ _ _ (by rintro rfl; rcases hp with h | h <;> omega)⟩
theorem cell (h : Fr B g w w') {p : Addr} (h1 : p.block < B) (h2 : p.block ≠ g) : w'.cell? p = w.cell? p := World.cell?_of_block (w := w) (h.block p.block h1 h2)
theorem mono {B' : Nat} (h : Fr B g w w') (hB : B' ≤ B) : Fr B' g w w' := ⟨h.os, h.tape, h.output, h.size, fun k hk => h.block k (by omega)⟩
theorem sl {A : Option Addr} {c : Nat} {xs : List Value} (h : Fr B g w w') (hs : Sl w A c xs) (hA : ∀ ad, A = some ad → ad.block < B ∧ ad.block ≠ g) : Sl w' A c xs :=
  hs.keep fun a u hc ⟨ad, j, e, ea⟩ => (h.cell (by rw [ea, addr_block]; exact (hA ad e).1) (by rw [ea, addr_block]; exact (hA ad e).2)).trans hc
end Fr
theorem blk_cell {w : World} {g : Nat} {cs : Array Value} {t : TypeId} {fr : Nat × Nat} (h : w.heap[g]? = some (.cells cs t fr)) (j : Nat) : w.cell? ⟨g, j, none⟩ = cs[j]? := cell_of_row w g j cs t fr h
theorem blk_frozen {w : World} {g : Nat} {cs : Array Value} {t : TypeId} (h : w.heap[g]? = some (.cells cs t (0, 0))) (j : Nat) : w.frozen? ⟨g, j, none⟩ = false := frozen_of_row w g j cs t h
theorem blk_lt {w : World} {g : Nat} {o : Obj} (h : w.heap[g]? = some o) : g < w.heap.size := (Array.getElem?_eq_some_iff.1 h).1
theorem blk_set {w : World} {g : Nat} {cs : Array Value} {t : TypeId} (h : w.heap[g]? = some (.cells cs t (0, 0))) (i : Nat) (u : Value) : (w.setCell ⟨g, i, none⟩ u).heap[g]? = some (.cells (cs.setIfInBounds i u) t (0, 0)) := heap_setCell_same w g i cs t u h
theorem blk_far {w : World} {g : Nat} {o : Obj} (h : w.heap[g]? = some o) {p : Addr} (hne : g ≠ p.block) (u : Value) : (w.setCell p u).heap[g]? = some o := (Below.heap_setCell w p u g hne).trans h
theorem blk_alloc {w : World} {g : Nat} {o : Obj} (h : w.heap[g]? = some o) (b : Obj) : (w.alloc b).heap[g]? = some o := (Below.heap_alloc w b g (blk_lt h)).trans h
theorem blk_below {w w' : World} {g : Nat} {o : Obj} (h : w.heap[g]? = some o) (hb : Below w.heap.size w w') : w'.heap[g]? = some o := (hb.block g (blk_lt h)).trans h
theorem box_belowS (w : World) (o : Obj) : Below w.heap.size w (w.alloc o) := (Below.refl _ _).alloc (Nat.le_refl _) _
end Go.Proofs.YtaohlmcgaggoeaaDoor
/- How many bits a word has: plain facts on bits.OnesCount64's text. -/
namespace Go.Proofs.YtaohlmcgaggoeaaDoor
open Go.RowKit

/-- How many numbers below n does f tell. -/
def cnt (f : Nat → Bool) : Nat → Nat
  | 0 => 0
  | n + 1 => cnt f n + (if f n then 1 else 0)
theorem cnt_congr {f g : Nat → Bool} : ∀ n, (∀ i, i < n → f i = g i) → cnt f n = cnt g n
  | 0, _ => rfl
  | n + 1, h => by
    rw [cnt, cnt, cnt_congr n (fun i hi => h i (by omega)), h n (by omega)]
theorem cnt_le (f : Nat → Bool) : ∀ n, cnt f n ≤ n
  | 0 => Nat.le_refl _
  | n + 1 => by
    have := cnt_le f n
    rw [cnt]
    split <;> omega
theorem cnt_add (f : Nat → Bool) (m : Nat) : ∀ n, cnt f (m + n) = cnt f m + cnt (fun i => f (m + i)) n
  | 0 => rfl
  | n + 1 => by rw [← Nat.add_assoc, cnt, cnt, cnt_add f m n, Nat.add_assoc]

/-- Eight bytes. -/
def N8 (f : Nat → Nat) : Nat := f 0 + 256 * (f 1 + 256 * (f 2 + 256 * (f 3 + 256 * (f 4 + 256 * (f 5 + 256 * (f 6 + 256 * f 7))))))
theorem and_split (a b c d : Nat) (ha : a < 256) (hc : c < 256) : (a + 256 * b) &&& (c + 256 * d) = (a &&& c) + 256 * (b &&& d) := by
  apply Nat.eq_of_testBit_eq
  intro i
  have hac : a &&& c < 2 ^ 8 := Nat.and_lt_two_pow _ (by omega)
  rw [Nat.testBit_and, Nat.add_comm a, Nat.add_comm c, Nat.add_comm (a &&& c), show (256 : Nat) = 2 ^ 8 from rfl,
    Nat.testBit_two_pow_mul_add _ (by omega), Nat.testBit_two_pow_mul_add _ (by omega), Nat.testBit_two_pow_mul_add _ hac]
  split <;> rw [Nat.testBit_and]
theorem and_N8 (f g : Nat → Nat) (hf : ∀ i, f i < 256) (hg : ∀ i, g i < 256) : N8 f &&& N8 g = N8 (fun i => f i &&& g i) := by
  unfold N8
  rw [and_split _ _ _ _ (hf 0) (hg 0), and_split _ _ _ _ (hf 1) (hg 1), and_split _ _ _ _ (hf 2) (hg 2), and_split _ _ _ _ (hf 3) (hg 3), and_split _ _ _ _ (hf 4) (hg 4), and_split _ _ _ _ (hf 5) (hg 5), and_split _ _ _ _ (hf 6) (hg 6)]
theorem N8_lt (f : Nat → Nat) (hf : ∀ i, f i < 256) : N8 f < 18446744073709551616 := by
  unfold N8
  have := hf 0; have := hf 1; have := hf 2; have := hf 3; have := hf 4; have := hf 5; have := hf 6; have := hf 7
  omega
theorem N8_of (n : Nat) (h : n < 18446744073709551616) : n = N8 (fun i => n / 256 ^ i % 256) := by
  unfold N8
  simp only [Nat.pow_zero, Nat.div_one, show (256 : Nat) ^ 1 = 256 from rfl, show (256 : Nat) ^ 2 = 65536 from rfl, show (256 : Nat) ^ 3 = 16777216 from rfl, show (256 : Nat) ^ 4 = 4294967296 from rfl,
    show (256 : Nat) ^ 5 = 1099511627776 from rfl, show (256 : Nat) ^ 6 = 281474976710656 from rfl, show (256 : Nat) ^ 7 = 72057594037927936 from rfl]
  omega
/-- The bytes, a bit (two, four) further down. -/
def up (f : Nat → Nat) (i : Nat) : Nat := if i < 7 then f (i + 1) else 0
theorem half_N8 (f : Nat → Nat) : N8 f / 2 = N8 (fun i => f i / 2 + 128 * (up f i % 2)) := by
  unfold N8 up
  simp only [show (7 : Nat) < 7 ↔ False by decide, show (0 : Nat) < 7 by decide, show (1 : Nat) < 7 by decide, show (2 : Nat) < 7 by decide, show (3 : Nat) < 7 by decide, show (4 : Nat) < 7 by decide, show (5 : Nat) < 7 by decide, show (6 : Nat) < 7 by decide, if_true, if_false, Nat.reduceAdd]
  omega
theorem quart_N8 (f : Nat → Nat) : N8 f / 4 = N8 (fun i => f i / 4 + 64 * (up f i % 4)) := by
  unfold N8 up
  simp only [show (7 : Nat) < 7 ↔ False by decide, show (0 : Nat) < 7 by decide, show (1 : Nat) < 7 by decide, show (2 : Nat) < 7 by decide, show (3 : Nat) < 7 by decide, show (4 : Nat) < 7 by decide, show (5 : Nat) < 7 by decide, show (6 : Nat) < 7 by decide, if_true, if_false, Nat.reduceAdd]
  omega
theorem six_N8 (f : Nat → Nat) : N8 f / 16 = N8 (fun i => f i / 16 + 16 * (up f i % 16)) := by
  unfold N8 up
  simp only [show (7 : Nat) < 7 ↔ False by decide, show (0 : Nat) < 7 by decide, show (1 : Nat) < 7 by decide, show (2 : Nat) < 7 by decide, show (3 : Nat) < 7 by decide, show (4 : Nat) < 7 by decide, show (5 : Nat) < 7 by decide, show (6 : Nat) < 7 by decide, if_true, if_false, Nat.reduceAdd]
  omega
theorem add_N8 (f g : Nat → Nat) : N8 f + N8 g = N8 (fun i => f i + g i) := by
  unfold N8
  simp only []
  omega
theorem N8_congr {f g : Nat → Nat} (h : ∀ i, f i = g i) : N8 f = N8 g := by rw [show f = g from funext h]

def p1 (b : Nat) : Nat := (b / 2 &&& 85) + (b &&& 85)
def p2 (b : Nat) : Nat := (b / 4 &&& 51) + (b &&& 51)
def p3 (b : Nat) : Nat := (b / 16 + b) &&& 15
theorem p1_top : ∀ b, b < 256 → ∀ u, u < 2 → (b / 2 + 128 * u) < 256 ∧ (b / 2 + 128 * u) &&& 85 = b / 2 &&& 85 := by decide +kernel
theorem p2_top : ∀ b, b < 256 → ∀ u, u < 4 → (b / 4 + 64 * u) < 256 ∧ (b / 4 + 64 * u) &&& 51 = b / 4 &&& 51 := by decide +kernel
theorem p1_lt : ∀ b, b < 256 → p1 b < 256 := by decide +kernel
theorem p2_lt : ∀ b, b < 256 → p2 (p1 b) < 256 ∧ p2 (p1 b) % 16 ≤ 4 ∧ p2 (p1 b) / 16 ≤ 4 := by decide +kernel
theorem p3_top : ∀ b, b < 256 → ∀ u, u < 5 → b % 16 ≤ 4 → b / 16 ≤ 4 → (b / 16 + 16 * u + b) < 256 ∧ (b / 16 + 16 * u + b) &&& 15 = p3 b := by decide +kernel
theorem pop_byte : ∀ b, b < 256 → p3 (p2 (p1 b)) = cnt b.testBit 8 := by decide +kernel

def os1 (a : Int) : Int := IntKind.u64.wrap (bits .and .u64 (a / 2) 6148914691236517205 + bits .and .u64 a 6148914691236517205)
def os2 (y : Int) : Int := IntKind.u64.wrap (bits .and .u64 (y / 4) 3689348814741910323 + bits .and .u64 y 3689348814741910323)
def os3 (y : Int) : Int := bits .and .u64 (IntKind.u64.wrap (y / 16 + y)) 1085102592571150095
def os4 (y : Int) : Int := IntKind.u64.wrap (y + y / 256)
def os5 (y : Int) : Int := IntKind.u64.wrap (y + y / 65536)
def os6 (y : Int) : Int := IntKind.u64.wrap (y + y / 4294967296)
def os7 (y : Int) : Int := bits .and .i64 (wrap64 y) 127

theorem wrap_nat {n : Nat} (h : n < 18446744073709551616) : IntKind.u64.wrap (n : Int) = n := by
  rw [IntKind.wrap_u64]
  omega
theorem m5 : (6148914691236517205 : Nat) = N8 (fun _ => 85) := by decide
theorem m3 : (3689348814741910323 : Nat) = N8 (fun _ => 51) := by decide
theorem m0f : (1085102592571150095 : Nat) = N8 (fun _ => 15) := by decide

theorem os1_N8 (f : Nat → Nat) (hf : ∀ i, f i < 256) : os1 (N8 f : Nat) = (N8 (fun i => p1 (f i)) : Nat) := by
  have h1 := fun i => p1_top (f i) (hf i) (up f i % 2) (by omega)
  have hl := N8_lt f hf
  have e : ((N8 f : Nat) : Int) / 2 = ((N8 f / 2 : Nat) : Int) := by simp
  have em : (6148914691236517205 : Int) = ((N8 (fun _ => 85) : Nat) : Int) := by rw [← m5]; rfl
  unfold os1
  rw [em, e, half_N8, u64_and_nat _ _ (N8_lt _ (fun i => (h1 i).1)) (N8_lt _ (fun _ => by decide)), u64_and_nat _ _ hl (N8_lt _ (fun _ => by decide)),
    and_N8 _ _ (fun i => (h1 i).1) (fun _ => by decide), and_N8 _ _ hf (fun _ => by decide), ← Int.natCast_add, add_N8]
  have e2 : N8 (fun i => (f i / 2 + 128 * (up f i % 2) &&& 85) + (f i &&& 85)) = N8 (fun i => p1 (f i)) := N8_congr fun i => by rw [(h1 i).2]; rfl
  rw [e2, wrap_nat (N8_lt _ (fun i => p1_lt _ (hf i)))]
theorem os2_N8 (f : Nat → Nat) (hf : ∀ i, f i < 256) (hp : ∀ i, p2 (f i) < 256) : os2 (N8 f : Nat) = (N8 (fun i => p2 (f i)) : Nat) := by
  have h1 := fun i => p2_top (f i) (hf i) (up f i % 4) (by omega)
  have hl := N8_lt f hf
  have e : ((N8 f : Nat) : Int) / 4 = ((N8 f / 4 : Nat) : Int) := by simp
  have em : (3689348814741910323 : Int) = ((N8 (fun _ => 51) : Nat) : Int) := by rw [← m3]; rfl
  unfold os2
  rw [em, e, quart_N8, u64_and_nat _ _ (N8_lt _ (fun i => (h1 i).1)) (N8_lt _ (fun _ => by decide)), u64_and_nat _ _ hl (N8_lt _ (fun _ => by decide)),
    and_N8 _ _ (fun i => (h1 i).1) (fun _ => by decide), and_N8 _ _ hf (fun _ => by decide), ← Int.natCast_add, add_N8]
  have e2 : N8 (fun i => (f i / 4 + 64 * (up f i % 4) &&& 51) + (f i &&& 51)) = N8 (fun i => p2 (f i)) := N8_congr fun i => by rw [(h1 i).2]; rfl
  rw [e2, wrap_nat (N8_lt _ hp)]
theorem os3_N8 (f : Nat → Nat) (hf : ∀ i, f i < 256) (h4 : ∀ i, f i % 16 ≤ 4 ∧ f i / 16 ≤ 4) : os3 (N8 f : Nat) = (N8 (fun i => p3 (f i)) : Nat) := by
  have hu : ∀ i, up f i % 16 < 5 := fun i => by
    unfold up
    split
    · have := (h4 (i + 1)).1; omega
    · omega
  have h1 := fun i => p3_top (f i) (hf i) (up f i % 16) (hu i) (h4 i).1 (h4 i).2
  have e : ((N8 f : Nat) : Int) / 16 + ((N8 f : Nat) : Int) = ((N8 f / 16 + N8 f : Nat) : Int) := by simp
  have em : (1085102592571150095 : Int) = ((N8 (fun _ => 15) : Nat) : Int) := by rw [← m0f]; rfl
  unfold os3
  rw [em, e, six_N8, add_N8, wrap_nat (N8_lt _ (fun i => (h1 i).1)), u64_and_nat _ _ (N8_lt _ (fun i => (h1 i).1)) (N8_lt _ (fun _ => by decide)), and_N8 _ _ (fun i => (h1 i).1) (fun _ => by decide)]
  rw [N8_congr fun i => (h1 i).2]
theorem os_step (K L H : Nat) (hL : L < K) (hs : L + K * H + H < 18446744073709551616) : IntKind.u64.wrap (((L + K * H : Nat) : Int) + ((L + K * H : Nat) : Int) / (K : Int)) = ((L + K * H + H : Nat) : Int) := by
  have e : ((L + K * H : Nat) : Int) / (K : Int) = ((H : Nat) : Int) := by
    rw [← Int.natCast_ediv, Nat.add_mul_div_left _ _ (by omega), Nat.div_eq_of_lt hL, Nat.zero_add]
  rw [e, ← Int.natCast_add, wrap_nat hs]
theorem os7_low (s m : Nat) (hs : s < 128) (hm : m < 36028797018963968) : os7 ((s + 256 * m : Nat) : Int) = s := by
  unfold os7
  have ew : wrap64 ((s + 256 * m : Nat) : Int) = ((s + 256 * m : Nat) : Int) := by
    unfold wrap64
    omega
  have e63 : (2 : Int) ^ 63 = 9223372036854775808 := by decide
  have := bits_mask .i64 63 (by decide) (fun n a b => by rw [e63] at b; rw [IntKind.wrap_i64]; omega) 7 (by decide) ((s + 256 * m : Nat) : Int) (by omega) (by rw [e63]; omega)
  rw [ew, show (127 : Int) = 2 ^ 7 - 1 by decide, this, show (2 : Int) ^ 7 = 128 by decide]
  omega
theorem os_sum (f : Nat → Nat) (hf : ∀ i, f i ≤ 8) : os7 (os6 (os5 (os4 (N8 f : Nat)))) = (f 0 + f 1 + f 2 + f 3 + f 4 + f 5 + f 6 + f 7 : Nat) := by
  have q0 := hf 0; have q1 := hf 1; have q2 := hf 2; have q3 := hf 3; have q4 := hf 4; have q5 := hf 5; have q6 := hf 6; have q7 := hf 7
  unfold N8
  generalize f 0 = a0 at *; generalize f 1 = a1 at *; generalize f 2 = a2 at *; generalize f 3 = a3 at *; generalize f 4 = a4 at *; generalize f 5 = a5 at *; generalize f 6 = a6 at *; generalize f 7 = a7 at *
  clear hf
  have s4 := os_step 256 a0 (a1 + 256 * (a2 + 256 * (a3 + 256 * (a4 + 256 * (a5 + 256 * (a6 + 256 * a7)))))) (by omega) (by omega)
  have s4' : os4 ((a0 + 256 * (a1 + 256 * (a2 + 256 * (a3 + 256 * (a4 + 256 * (a5 + 256 * (a6 + 256 * a7)))))) : Nat) : Int) = _ := s4
  clear s4
  rw [s4', show a0 + 256 * (a1 + 256 * (a2 + 256 * (a3 + 256 * (a4 + 256 * (a5 + 256 * (a6 + 256 * a7)))))) + (a1 + 256 * (a2 + 256 * (a3 + 256 * (a4 + 256 * (a5 + 256 * (a6 + 256 * a7)))))) =
    ((a0 + a1) + 256 * (a1 + a2)) + 65536 * ((a2 + a3) + 256 * ((a3 + a4) + 256 * ((a4 + a5) + 256 * ((a5 + a6) + 256 * ((a6 + a7) + 256 * a7))))) by omega]
  clear s4'
  have s5 := os_step 65536 ((a0 + a1) + 256 * (a1 + a2)) ((a2 + a3) + 256 * ((a3 + a4) + 256 * ((a4 + a5) + 256 * ((a5 + a6) + 256 * ((a6 + a7) + 256 * a7))))) (by omega) (by omega)
  have s5' : os5 (((a0 + a1) + 256 * (a1 + a2) + 65536 * ((a2 + a3) + 256 * ((a3 + a4) + 256 * ((a4 + a5) + 256 * ((a5 + a6) + 256 * ((a6 + a7) + 256 * a7))))) : Nat) : Int) = _ := s5
  clear s5
  rw [s5', show (a0 + a1) + 256 * (a1 + a2) + 65536 * ((a2 + a3) + 256 * ((a3 + a4) + 256 * ((a4 + a5) + 256 * ((a5 + a6) + 256 * ((a6 + a7) + 256 * a7))))) + ((a2 + a3) + 256 * ((a3 + a4) + 256 * ((a4 + a5) + 256 * ((a5 + a6) + 256 * ((a6 + a7) + 256 * a7))))) =
    ((a0 + a1 + a2 + a3) + 256 * ((a1 + a2 + a3 + a4) + 256 * ((a2 + a3 + a4 + a5) + 256 * (a3 + a4 + a5 + a6)))) + 4294967296 * ((a4 + a5 + a6 + a7) + 256 * ((a5 + a6 + a7) + 256 * ((a6 + a7) + 256 * a7))) by omega]
  clear s5'
  have s6 := os_step 4294967296 ((a0 + a1 + a2 + a3) + 256 * ((a1 + a2 + a3 + a4) + 256 * ((a2 + a3 + a4 + a5) + 256 * (a3 + a4 + a5 + a6)))) ((a4 + a5 + a6 + a7) + 256 * ((a5 + a6 + a7) + 256 * ((a6 + a7) + 256 * a7))) (by omega) (by omega)
  have s6' : os6 (((a0 + a1 + a2 + a3) + 256 * ((a1 + a2 + a3 + a4) + 256 * ((a2 + a3 + a4 + a5) + 256 * (a3 + a4 + a5 + a6))) + 4294967296 * ((a4 + a5 + a6 + a7) + 256 * ((a5 + a6 + a7) + 256 * ((a6 + a7) + 256 * a7))) : Nat) : Int) = _ := s6
  clear s6
  obtain ⟨m, hm, em⟩ : ∃ m : Nat, m < 36028797018963968 ∧ (a0 + a1 + a2 + a3) + 256 * ((a1 + a2 + a3 + a4) + 256 * ((a2 + a3 + a4 + a5) + 256 * (a3 + a4 + a5 + a6))) + 4294967296 * ((a4 + a5 + a6 + a7) + 256 * ((a5 + a6 + a7) + 256 * ((a6 + a7) + 256 * a7))) +
      ((a4 + a5 + a6 + a7) + 256 * ((a5 + a6 + a7) + 256 * ((a6 + a7) + 256 * a7))) = (a0 + a1 + a2 + a3 + a4 + a5 + a6 + a7) + 256 * m :=
    ⟨((a1 + a2 + a3 + a4) + 256 * ((a2 + a3 + a4 + a5) + 256 * (a3 + a4 + a5 + a6))) + 16777216 * ((a4 + a5 + a6 + a7) + 256 * ((a5 + a6 + a7) + 256 * ((a6 + a7) + 256 * a7))) + ((a5 + a6 + a7) + 256 * ((a6 + a7) + 256 * a7)), by omega, by omega⟩
  rw [s6', em]
  exact os7_low _ m (by omega) hm

theorem byte_bit (n i : Nat) (j : Nat) (hj : j < 8) : (n / 256 ^ i % 256).testBit j = n.testBit (8 * i + j) := by
  rw [show (256 : Nat) ^ i = 2 ^ (8 * i) by rw [Nat.pow_mul], show (256 : Nat) = 2 ^ 8 from rfl, Nat.testBit_mod_two_pow, Nat.testBit_div_two_pow]
  simp [hj, Nat.add_comm]
/-- What bits.OnesCount64's text comes to: how many bits there are. -/
theorem ones_spelt {a : Int} (h0 : 0 ≤ a) (h1 : a < U64) : os7 (os6 (os5 (os4 (os3 (os2 (os1 a)))))) = (cnt a.toNat.testBit 64 : Nat) := by
  obtain ⟨n, rfl⟩ := Int.eq_ofNat_of_zero_le h0
  have hn : n < 18446744073709551616 := by have := u64_lt h1; omega
  rw [Int.toNat_natCast]
  have hf : ∀ i, (fun i => n / 256 ^ i % 256) i < 256 := fun i => Nat.mod_lt _ (by decide)
  have h2 := fun i => p2_lt _ (hf i)
  have h8 : ∀ i, p3 (p2 (p1 (n / 256 ^ i % 256))) = cnt (fun j => n.testBit (8 * i + j)) 8 := fun i => by
    rw [pop_byte _ (hf i)]
    exact cnt_congr 8 fun j hj => byte_bit n i j hj
  have key : os7 (os6 (os5 (os4 (os3 (os2 (os1 ((N8 (fun i => n / 256 ^ i % 256) : Nat) : Int))))))) = (cnt n.testBit 64 : Nat) := by
    rw [os1_N8 _ hf, os2_N8 _ (fun i => p1_lt _ (hf i)) (fun i => (h2 i).1), os3_N8 _ (fun i => (h2 i).1) (fun i => (h2 i).2)]
    rw [N8_congr h8, os_sum _ (fun i => cnt_le _ 8)]
    rw [show (64 : Nat) = 8 + 8 + 8 + 8 + 8 + 8 + 8 + 8 from rfl, cnt_add, cnt_add, cnt_add, cnt_add, cnt_add, cnt_add, cnt_add]
    have : cnt (fun j => n.testBit (8 * 0 + j)) 8 = cnt n.testBit 8 := cnt_congr 8 fun j _ => by rw [Nat.mul_zero, Nat.zero_add]
    rw [this]
  rw [N8_of n hn]
  exact key.trans (by rw [← N8_of n hn])

/-- How many bytes a class has. -/
def sizeC (x : Nat → Int) : Nat := cnt (hasB x) 256
def wordN (x : Nat → Int) (k : Nat) : Nat := cnt (hasB x) (64 * k)
theorem wordN_succ (x : Nat → Int) (k : Nat) : wordN x (k + 1) = wordN x k + cnt (x k).toNat.testBit 64 := by
  unfold wordN
  rw [Nat.mul_add, Nat.mul_one, cnt_add]
  congr 1
  apply cnt_congr
  intro i hi
  unfold hasB
  rw [show (64 * k + i) / 64 = k by omega, show (64 * k + i) % 64 = i by omega]
theorem wordN_le (x : Nat → Int) (k : Nat) : wordN x k ≤ 64 * k := cnt_le _ _

theorem not_not {a : Int} (h0 : 0 ≤ a) (h1 : a < U64) : notw (notw a) = a := by
  obtain ⟨p, q⟩ := notw_range h0 h1
  obtain ⟨p2, q2⟩ := notw_range p q
  refine word_ext p2 q2 h0 h1 fun k hk => ?_
  rw [notw_bit p q hk, notw_bit h0 h1 hk, Bool.not_not]
end Go.Proofs.YtaohlmcgaggoeaaDoor
/- Written by wip/gen_clsd.py out of XClsW and XCl1: class.Has, Size, Least; the table of math/bits. -/
namespace Go.Proofs.YtaohlmcgaggoeaaDoor
open Go.RowKit
set_option linter.unusedVariables false
set_option linter.unusedSimpArgs false
theorem has_any (x : Nat → Int) (hx : W64 x) (b : Int) (h0 : 0 ≤ b) (h1 : b < 256) (w : World) :
    Calls Tryd.prog 66 #[.agg #[.int .u64 (x 0), .int .u64 (x 1), .int .u64 (x 2), .int .u64 (x 3)], .int .u8 b] w fun e w' => e = .returned (.bool (hasB x b.toNat)) ∧ Below w.heap.size w w' := by
  have hc := four_get (fun j => .int .u64 (x j)) (b / 64).toNat (by omega)
  go_enter Tryd.func66, Tryd.ntmps66
  go_wp2
  go_ret
  refine ⟨?_, (Below.refl _ _).alloc (Nat.le_refl _) _⟩
  have hj := hx (b / 64).toNat (by omega)
  have e := bit_spelt hj.1 hj.2 (b % 64).toNat
  simp only [hasB]
  rw [show b.toNat / 64 = (b / 64).toNat by omega, show b.toNat % 64 = (b % 64).toNat by omega, ← e]
  rfl

theorem ones_any (a : Int) (h0 : 0 ≤ a) (h1 : a < U64) (w : World) :
    Calls Tryd.prog 64 #[.int .u64 a] w fun e w' => e = .returned (.int .i64 (cnt a.toNat.testBit 64 : Nat)) ∧ w = w' := by
  have H := Lib.hid (ones_spelt h0 h1)
  have H1 := Lib.hid h1
  clear h1 h0
  go_enter Tryd.func64, Tryd.ntmps64
  go_wp2
  go_ret
  exact ⟨congrArg (fun n => Ending.returned (.int .i64 n)) H.out, rfl⟩

theorem size_any (x : Nat → Int) (hx : W64 x) (w : World) :
    Calls Tryd.prog 50 #[.agg #[.int .u64 (x 0), .int .u64 (x 1), .int .u64 (x 2), .int .u64 (x 3)]] w fun e w' => e = .returned (.int .i64 (sizeC x : Nat)) ∧ Below w.heap.size w w' := by
  go_enter Tryd.func50, Tryd.ntmps50
  go_wp2
  go_loop [3, 7] (fun n i => ∃ k : Nat, k ≤ 4 ∧ i = .int .i64 k ∧ n = .int .i64 (wordN x k : Nat)) (fun _ i => 4 - (intOf i).toNat)
  case atStart => exact ⟨0, by omega, rfl, rfl⟩
  case round =>
    obtain ⟨k, hk, rfl, rfl⟩ := hrel
    by_cases hlt : k < 4
    · have hi := index4 x k hlt
      have hw := hx k hlt
      have h1 := wordN_le x k
      have h2 := cnt_le (x k).toNat.testBit 64
      go_wp2_with (refine (ones_any (x k) hw.1 hw.2 _).mono ?_; rintro e w' ⟨rfl, rfl⟩)
      go_round
      case rel => exact ⟨k + 1, by omega, by go_num, by rw [wordN_succ]; go_num⟩
      case measure => simp [intOf]; omega
    · go_wp2
      go_ret
      refine ⟨?_, (Below.refl _ _).alloc (Nat.le_refl _) _⟩
      obtain rfl : k = 4 := by omega
      rfl

def lowB (n : Nat) : Nat → Nat → Nat
  | 0, k => k
  | m + 1, k => if n.testBit k then k else lowB n m (k + 1)
theorem lowB_spec (n : Nat) : ∀ m k, (∃ j, k ≤ j ∧ j < k + m ∧ n.testBit j = true) → k ≤ lowB n m k ∧ lowB n m k < k + m ∧ n.testBit (lowB n m k) = true ∧ ∀ i, k ≤ i → i < lowB n m k → n.testBit i = false
  | 0, k, ⟨j, h1, h2, _⟩ => by omega
  | m + 1, k, ⟨j, h1, h2, h3⟩ => by
    rw [lowB]
    by_cases hk : n.testBit k = true
    · rw [if_pos hk]; exact ⟨by omega, by omega, hk, fun i h h' => by omega⟩
    · rw [if_neg hk]
      have hj : j ≠ k := by rintro rfl; exact hk h3
      obtain ⟨a, b, c, d⟩ := lowB_spec n m (k + 1) ⟨j, by omega, by omega, h3⟩
      refine ⟨by omega, by omega, c, fun i h h' => ?_⟩
      by_cases e : i = k
      · subst e; simpa using hk
      · exact d i (by omega) h'
theorem and_neg {n k : Nat} (hn : n < 2 ^ 64) (hk : n.testBit k = true) (hl : ∀ i, i < k → n.testBit i = false) : n &&& (2 ^ 64 - n) = 2 ^ k := by
  have hmod : n % 2 ^ (k + 1) = 2 ^ k := by
    apply Nat.eq_of_testBit_eq
    intro i
    rw [Nat.testBit_mod_two_pow, Nat.testBit_two_pow]
    by_cases h : i < k
    · rw [hl i h, decide_eq_false (show ¬ k = i by omega)]; simp
    · by_cases e : i = k
      · subst e; simp [hk]
      · rw [decide_eq_false (show ¬ i < k + 1 by omega), decide_eq_false (show ¬ k = i by omega)]; rfl
  have hdm := Nat.div_add_mod n (2 ^ (k + 1))
  rw [hmod] at hdm
  have hp : 0 < 2 ^ k := Nat.two_pow_pos k
  have hlt : 2 ^ k - 1 < 2 ^ (k + 1) := by rw [Nat.pow_succ]; omega
  have hlt2 : 2 ^ k < 2 ^ (k + 1) := by rw [Nat.pow_succ]; omega
  have e1 : n = 2 ^ (k + 1) * (n / 2 ^ (k + 1)) + 2 ^ k := hdm.symm
  have e2 : n - 1 = 2 ^ (k + 1) * (n / 2 ^ (k + 1)) + (2 ^ k - 1) := by omega
  have e3 : 2 ^ 64 - n = 2 ^ 64 - ((n - 1) + 1) := by omega
  apply Nat.eq_of_testBit_eq
  intro i
  rw [Nat.testBit_and, e3, Nat.testBit_two_pow_sub_succ (by omega), Nat.testBit_two_pow]
  by_cases h : i < k
  · rw [hl i h, decide_eq_false (show ¬ k = i by omega)]; rfl
  · by_cases e : i = k
    · subst e
      have h2 : (n - 1).testBit i = false := by
        rw [e2, Nat.testBit_two_pow_mul_add _ hlt, if_pos (by omega)]
        exact Nat.testBit_lt_two_pow (by omega)
      have h3 : i < 64 := by
        rcases Nat.lt_or_ge i 64 with h | h
        · exact h
        · have := Nat.testBit_lt_two_pow (Nat.lt_of_lt_of_le hn (Nat.pow_le_pow_right (by decide) h))
          rw [this] at hk; cases hk
      simp [hk, h2, h3]
    · have h2 : (n - 1).testBit i = n.testBit i := by
        have a1 : (n - 1).testBit i = (n / 2 ^ (k + 1)).testBit (i - (k + 1)) := by rw [e2, Nat.testBit_two_pow_mul_add _ hlt, if_neg (by omega)]
        have a2 : (2 ^ (k + 1) * (n / 2 ^ (k + 1)) + 2 ^ k).testBit i = (n / 2 ^ (k + 1)).testBit (i - (k + 1)) := by rw [Nat.testBit_two_pow_mul_add _ hlt2, if_neg (by omega)]
        rw [a1, ← a2, ← e1]
      rw [h2, decide_eq_false (show ¬ k = i by omega)]
      cases n.testBit i <;> simp
def tabL : List Int := [0, 1, 56, 2, 57, 49, 28, 3, 61, 58, 42, 50, 38, 29, 17, 4, 62, 47, 59, 36, 45, 43, 51, 22, 53, 39, 33, 30, 24, 18, 12, 5, 63, 55, 48, 27, 60, 41, 37, 16, 46, 35, 44, 21, 52, 32, 23, 11, 54, 26, 40, 15, 34, 20, 31, 10, 25, 14, 19, 9, 13, 8, 7, 6]
theorem tab_at : ∀ k : Fin 64, tabL.getD ((2 ^ k.1 * 285870213051353865 % 18446744073709551616) / 288230376151711744) 0 = (k.1 : Int) := by decide +kernel
def Tab (w : World) : Prop := ∀ j, j < 64 → w.cell? ⟨1, j, none⟩ = some (.int .u8 (tabL.getD j 0))
theorem Tab.below {w w' : World} (h : Tab w) (hb : Below w.heap.size w w') : Tab w' := fun j hj => (hb.cell (World.block_lt_of_cell? w _ (h j hj))).trans (h j hj)
theorem neg_spelt {a : Int} (h0 : 0 < a) (h1 : a < U64) : IntKind.u64.wrap (-a) = ((2 ^ 64 - a.toNat : Nat) : Int) := by
  rw [IntKind.wrap_u64]
  have := u64_lt h1
  have e : (2 : Nat) ^ 64 = 18446744073709551616 := by decide
  rw [e]
  omega
theorem tz_index {a : Int} (h0 : 0 < a) (h1 : a < U64) : bits .and .u64 a (IntKind.u64.wrap (-a)) = ((2 ^ lowB a.toNat 64 0 : Nat) : Int) ∧ lowB a.toNat 64 0 < 64 ∧ a.toNat.testBit (lowB a.toNat 64 0) = true ∧ ∀ i, i < lowB a.toNat 64 0 → a.toNat.testBit i = false := by
  have h := u64_lt h1
  have e64 : (2 : Nat) ^ 64 = 18446744073709551616 := by decide
  have hn : a.toNat < 2 ^ 64 := by rw [e64]; omega
  have hex : ∃ j, 0 ≤ j ∧ j < 0 + 64 ∧ a.toNat.testBit j = true := by
    obtain ⟨j, hj⟩ := Nat.exists_testBit_of_ne_zero (x := a.toNat) (by omega)
    refine ⟨j, by omega, ?_, hj⟩
    rcases Nat.lt_or_ge j 64 with h | h
    · omega
    · have := Nat.testBit_lt_two_pow (Nat.lt_of_lt_of_le hn (Nat.pow_le_pow_right (by decide) h))
      rw [this] at hj; cases hj
  obtain ⟨_, b, c, d⟩ := lowB_spec a.toNat 64 0 hex
  have hs := neg_spelt h0 h1
  refine ⟨?_, by omega, c, fun i hi => d i (by omega) hi⟩
  rw [hs, u64_and _ _ (by omega) (by omega) (by omega) (by rw [e64]; omega), Int.toNat_natCast, and_neg hn c (fun i hi => d i (by omega) hi)]
theorem tz_mul (k : Nat) : IntKind.u64.wrap (((2 ^ k : Nat) : Int) * 285870213051353865) / 288230376151711744 = (((2 ^ k * 285870213051353865 % 18446744073709551616) / 288230376151711744 : Nat) : Int) := by
  rw [IntKind.wrap_u64]
  generalize 2 ^ k = p
  omega
theorem tab_k {k : Nat} (hk : k < 64) : tabL.getD ((2 ^ k * 285870213051353865 % 18446744073709551616) / 288230376151711744) 0 = (k : Int) := tab_at ⟨k, hk⟩
theorem tz_core {k : Nat} (hk : k < 64) {w : World} (hT : Tab w) : ∃ q : Nat, IntKind.u64.wrap (((2 ^ k : Nat) : Int) * 285870213051353865) / 288230376151711744 = (q : Int) ∧ q < 64 ∧ w.cell? ⟨1, q, none⟩ = some (.int .u8 k) := by
  have hlt : ∀ p : Nat, (p * 285870213051353865 % 18446744073709551616) / 288230376151711744 < 64 := by intro p; omega
  have hc := hT _ (hlt (2 ^ k))
  rw [tab_k hk] at hc
  exact ⟨_, tz_mul k, hlt _, hc⟩
theorem tz_walk (a : Int) (k : Nat) (p : Nat) (q : Nat) (hz : ¬ a = 0) (w : World) (hi : bits .and .u64 a (IntKind.u64.wrap (-a)) = (p : Int)) (hm : IntKind.u64.wrap ((p : Int) * 285870213051353865) / 288230376151711744 = (q : Int)) (hlt : q < 64) (hk : k < 64) (hc : w.cell? ⟨1, q, none⟩ = some (.int .u8 k)) :
    Calls Tryd.prog 65 #[.int .u64 a] w fun e w' => e = .returned (.int .i64 k) ∧ w = w' := by
  have hz2 : (a == 0) = false := by simp [hz]
  have hk2 : (k : Int) < 64 := by omega
  go_enter Tryd.func65, Tryd.ntmps65
  go_wp2
  go_ret
  exact ⟨rfl, rfl⟩
theorem tz_any (a : Int) (h0 : 0 ≤ a) (h1 : a < U64) (hz : ¬ a = 0) (w : World) (hT : Tab w) :
    Calls Tryd.prog 65 #[.int .u64 a] w fun e w' => e = .returned (.int .i64 (lowB a.toNat 64 0 : Nat)) ∧ w = w' := by
  obtain ⟨hi, hk, _, _⟩ := tz_index (a := a) (by omega) h1
  obtain ⟨q, hm, hq, hc⟩ := tz_core hk hT
  exact tz_walk a _ _ q hz w hi hm hq hk hc

theorem word_zero {x : Nat → Int} (hx : W64 x) {j : Nat} (hj : j < 4) (h : ∀ k, k < 64 → hasB x (64 * j + k) = false) : x j = 0 := by
  refine word_ext (hx j hj).1 (hx j hj).2 (Int.le_refl _) (by unfold U64; omega) fun k hk => ?_
  have := h k hk
  unfold hasB at this
  rw [show (64 * j + k) / 64 = j by omega, show (64 * j + k) % 64 = k by omega] at this
  rw [this]; simp
theorem word_some {x : Nat → Int} {b : Nat} (h : hasB x b = true) : ¬ x (b / 64) = 0 := by
  intro e
  unfold hasB at h
  rw [e] at h
  simp at h
theorem low_at {x : Nat → Int} (hx : W64 x) {b : Nat} (hb : b < 256) (h : hasB x b = true) (hl : ∀ q, q < b → hasB x q = false) : lowB (x (b / 64)).toNat 64 0 = b % 64 := by
  have hz := word_some h
  obtain ⟨_, h2, h3, h4⟩ := tz_index (a := x (b / 64)) (by have := (hx (b / 64) (by omega)).1; omega) (hx (b / 64) (by omega)).2
  have ht : (x (b / 64)).toNat.testBit (b % 64) = true := h
  rcases Nat.lt_trichotomy (lowB (x (b / 64)).toNat 64 0) (b % 64) with hlt | heq | hgt
  · have := hl (64 * (b / 64) + lowB (x (b / 64)).toNat 64 0) (by omega)
    unfold hasB at this
    rw [show (64 * (b / 64) + lowB (x (b / 64)).toNat 64 0) / 64 = b / 64 by omega, show (64 * (b / 64) + lowB (x (b / 64)).toNat 64 0) % 64 = lowB (x (b / 64)).toNat 64 0 by omega, h3] at this
    cases this
  · exact heq
  · rw [h4 _ hgt] at ht; cases ht
theorem least_some (x : Nat → Int) (hx : W64 x) (b : Nat) (hb : b < 256) (h1 : hasB x b = true) (h2 : ∀ q, q < b → hasB x q = false) (w : World) (hT : Tab w) :
    Calls Tryd.prog 51 #[.agg #[.int .u64 (x 0), .int .u64 (x 1), .int .u64 (x 2), .int .u64 (x 3)]] w fun e w' => e = .returned (.tuple #[.int .u8 b, .bool true]) ∧ Below w.heap.size w w' := by
  have hn := word_some h1
  have hlow := low_at hx hb h1 h2
  have z : ∀ j, j < b / 64 → x j = 0 := fun j hj => word_zero hx (by omega) fun k hk => h2 _ (by omega)
  have hb0 := ext_new w (.cells #[.int .u64 (x 0), .int .u64 (x 1), .int .u64 (x 2), .int .u64 (x 3)] 24)
  have ix := index4 x
  have hw := hx (b / 64) (by omega)
  obtain ⟨m, hm⟩ : ∃ m, m = b / 64 := ⟨_, rfl⟩
  obtain ⟨r, hr⟩ : ∃ r, r = b % 64 := ⟨_, rfl⟩
  have hbm : b = 64 * m + r := by omega
  have hm4 : m < 4 := by omega
  have hr6 : r < 64 := by omega
  rw [← hm] at hn hlow z hw
  rw [← hr] at hlow
  clear hm hr h1 h2 hb hx
  subst hbm
  go_enter Tryd.func51, Tryd.ntmps51
  go_wp2
  go_loopw [7] (fun i wr => ∃ k : Nat, k ≤ m ∧ i = .int .i64 k ∧ Below w.heap.size w wr) (fun i _ => 4 - (intOf i).toNat)
  case atStart => exact ⟨0, by omega, rfl, hb0⟩
  case round =>
    obtain ⟨k, hk, rfl, hbw⟩ := hrel
    by_cases hlt : k < m
    · have hi := ix k (by omega) wr
      rw [z k hlt] at hi
      have hlz : (k : Int) < 4 := by omega
      go_wp2
      go_roundw
      case rel => exact ⟨k + 1, by omega, by go_num, hbw⟩
      case measure => simp [intOf]; omega
    · obtain rfl : k = m := by omega
      have hi := ix k hm4 wr
      have hlz : (k : Int) < 4 := by omega
      have htz := tz_any (x k) hw.1 hw.2 hn wr (hT.below hbw)
      rw [hlow] at htz
      have hne : (x k == 0) = false := by simp [hn]
      have hne2 : (x k != 0) = true := by simp [hn]
      generalize x k = y at *
      clear hlow z ix hw hn hT
      go_wp2_with fail
      refine htz.mono ?_
      rintro e w' ⟨rfl, rfl⟩
      go_wp2
      refine bodyPost_ret (results_tmp2 rfl _ _ _) rfl ?_
      refine ⟨?_, hbw⟩
      show Ending.returned (.tuple #[.int .u8 ((k : Int) * 64 + (r : Int)), .bool true]) = Ending.returned (.tuple #[.int .u8 ((64 * k + r : Nat) : Int), .bool true])
      rw [show (k : Int) * 64 + (r : Int) = ((64 * k + r : Nat) : Int) by omega]
end Go.Proofs.YtaohlmcgaggoeaaDoor
