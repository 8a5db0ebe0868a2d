/- Plain words on memory: rows of cells, lists that are read. No program in sight. -/
import Derived.WalkKit
import Derived.LoopTactic
import Derived.Deep.OwnRows
import Derived.Lib.Hide
import Derived.Deep.RegionHeld3
namespace Go.Proofs.YthknfjiggdkcaaaDoor
open Go.RowKit

theorem four_get (f : Nat → Value) (j : Nat) (h : j < 4) : [f 0, f 1, f 2, f 3][j]? = some (f j) := by
  match j, h with
  | 0, _ => rfl
  | 1, _ => rfl
  | 2, _ => rfl
  | 3, _ => rfl

theorem row4 {w : World} {b : Nat} {t : TypeId} {f : Nat → Value} (h : w.rowIs b t 4 f) :
    w.cell? ⟨b, 0, none⟩ = some (f 0) ∧ w.cell? ⟨b, 1, none⟩ = some (f 1) ∧ w.cell? ⟨b, 2, none⟩ = some (f 2) ∧ w.cell? ⟨b, 3, none⟩ = some (f 3) ∧
      w.frozen? ⟨b, 0, none⟩ = false ∧ w.frozen? ⟨b, 1, none⟩ = false ∧ w.frozen? ⟨b, 2, none⟩ = false ∧ w.frozen? ⟨b, 3, none⟩ = false :=
  ⟨h.cell (by omega), h.cell (by omega), h.cell (by omega), h.cell (by omega), h.frozen _, h.frozen _, h.frozen _, h.frozen _⟩

theorem row4_lit {w : World} {b : Nat} {t : TypeId} {f : Nat → Value} (h : w.rowIs b t 4 f) : w.heap[b]? = some (.cells #[f 0, f 1, f 2, f 3] t (0, 0)) := by
  obtain ⟨c, hb, hn, hc⟩ := h
  rw [hb]
  congr 2
  apply Array.ext_getElem?
  intro i
  by_cases hi : i < 4
  · rw [hc i hi]
    have := four_get f i hi
    simpa using this.symm
  · rw [Array.getElem?_eq_none (by omega), Array.getElem?_eq_none (by simp; omega)]

/-- A new row of four, and one behind it. -/
theorem row4_new (w : World) (f : Nat → Value) (t : TypeId) : (w.alloc (.cells #[f 0, f 1, f 2, f 3] t)).rowIs w.heap.size t 4 f :=
  World.rowIs_alloc w #[f 0, f 1, f 2, f 3] t f (fun i hi => by have := four_get f i (by simpa using hi); simpa using this)
theorem size_alloc (w : World) (o : Obj) : (w.alloc o).heap.size = w.heap.size + 1 := by simp
theorem row4_new1 (w : World) (o : Obj) (f : Nat → Value) (t : TypeId) : ((w.alloc o).alloc (.cells #[f 0, f 1, f 2, f 3] t)).rowIs (w.heap.size + 1) t 4 f := by
  have := row4_new (w.alloc o) f t
  rwa [size_alloc] at this

theorem row_below {w w' : World} {b : Nat} {t : TypeId} {n : Nat} {f : Nat → Value} (h : w.rowIs b t n f) (hb : Below w.heap.size w w') : w'.rowIs b t n f := h.of_block (hb.block b h.lt)
theorem four_getE (f : Nat → Value) (j : Nat) (h : j < [f 0, f 1, f 2, f 3].length) : [f 0, f 1, f 2, f 3][j] = f j := by
  have := four_get f j h
  rw [List.getElem?_eq_getElem h] at this
  exact Option.some.inj this
theorem row_far4 {w : World} {b b2 : Nat} {t : TypeId} {n : Nat} {f : Nat → Value} (h : w.rowIs b t n f) (hne : b ≠ b2) (g : Nat → Value) :
    ((((w.setCell ⟨b2, 0, none⟩ (g 0)).setCell ⟨b2, 1, none⟩ (g 1)).setCell ⟨b2, 2, none⟩ (g 2)).setCell ⟨b2, 3, none⟩ (g 3)).rowIs b t n f :=
  (((h.setOther (by exact hne) _).setOther (by exact hne) _).setOther (by exact hne) _).setOther (by exact hne) _
theorem row_box (w : World) (cs : Array Value) (t : TypeId) {n : Nat} {f : Nat → Value} (hs : cs.size = n) (hf : ∀ i, i < n → cs[i]? = some (f i)) : (w.alloc (.cells cs t)).rowIs w.heap.size t n f := by
  subst hs
  exact World.rowIs_alloc w cs t f hf
/-- Four stores. -/
theorem row4_set {w : World} {b : Nat} {t : TypeId} {f : Nat → Value} (h : w.rowIs b t 4 f) (g : Nat → Value) :
    ((((w.setCell ⟨b, 0, none⟩ (g 0)).setCell ⟨b, 1, none⟩ (g 1)).setCell ⟨b, 2, none⟩ (g 2)).setCell ⟨b, 3, none⟩ (g 3)).rowIs b t 4 g :=
  ((((h.set 0 (g 0)).set 1 (g 1)).set 2 (g 2)).set 3 (g 3)).congr fun i hi => by
    match i, hi with
    | 0, _ => rfl
    | 1, _ => rfl
    | 2, _ => rfl
    | 3, _ => rfl
theorem below_set4 {B : Nat} {a w : World} (h : Below B a w) {b : Nat} (hb : B ≤ b) (g : Nat → Value) :
    Below B a ((((w.setCell ⟨b, 0, none⟩ (g 0)).setCell ⟨b, 1, none⟩ (g 1)).setCell ⟨b, 2, none⟩ (g 2)).setCell ⟨b, 3, none⟩ (g 3)) :=
  (((h.setCell (by exact hb) _).setCell (by exact hb) _).setCell (by exact hb) _).setCell (by exact hb) _

/-- The end of a function whose one result is an array of four in a block of its own. -/
theorem post_row4 {P : Program} {fn : Func} {R : Ending → World → Prop} {a : Act} {w : World} {t : Tmp} {T e : TypeId} {b : Nat} {f : Nat → Value} (hr : fn.results = #[.cell t T])
    (hp : a.tmps.getD t undef = .pointer (some ⟨b, 0, none⟩)) (hrow : w.rowIs b T 4 f) (hu : P.underlying T = some (.array 4 e)) (hi : (P.info? T).map (·.size) = some 4) (hd : a.defers = [])
    (hR : R (.returned (.agg #[f 0, f 1, f 2, f 3])) w) : bodyPost P fn R .ret a w :=
  bodyPost_ret (results_cell_row hr _ w b T #[f 0, f 1, f 2, f 3] (0, 0) _ hp (row4_lit hrow) hu rfl hi) hd hR

/-- A row that is turned cell by cell. -/
theorem row_step {w : World} {b : Nat} {t : TypeId} {n k : Nat} {f g : Nat → Value} (h : w.rowIs b t n (fun j => if j < k then g j else f j)) {v : Value} (hv : v = g k) :
    (w.setCell ⟨b, k, none⟩ v).rowIs b t n (fun j => if j < k + 1 then g j else f j) :=
  (h.set k v).congr fun i _ => by
    subst hv
    by_cases e : i = k
    · subst e; simp
    · by_cases e2 : i < k
      · simp [e, e2, Nat.lt_succ_of_lt e2]
      · simp [e, e2, show ¬ i < k + 1 by omega]
theorem row_at {w : World} {b : Nat} {t : TypeId} {n k : Nat} {f g : Nat → Value} (h : w.rowIs b t n (fun j => if j < k then g j else f j)) (hk : k < n) : w.cell? ⟨b, k, none⟩ = some (f k) := by
  have := h.cell hk
  simpa using this
theorem row_all {w : World} {b : Nat} {t : TypeId} {n k : Nat} {f g : Nat → Value} (h : w.rowIs b t n (fun j => if j < k then g j else f j)) (hk : n ≤ k) : w.rowIs b t n g :=
  h.congr fun i hi => by simp [show i < k by omega]

/-- A slice that reads as a list of numbers. -/
def RdI (w : World) (k : IntKind) (A : Option Addr) (l : List Int) : Prop :=
  l.length ≤ 9223372036854775807 ∧ (0 < l.length → ∃ ad, A = some ad ∧ ∀ j, j < l.length → w.cell? (ad.add j) = some (.int k (l.getD j 0)))
theorem RdI.below {w w' : World} {k : IntKind} {A : Option Addr} {l : List Int} (h : RdI w k A l) (hb : Below w.heap.size w w') : RdI w' k A l :=
  ⟨h.1, fun hn => by
    obtain ⟨ad, e, hc⟩ := h.2 hn
    exact ⟨ad, e, fun j hj => (hb.cell (World.block_lt_of_cell? w _ (hc j hj))).trans (hc j hj)⟩⟩

def Byt (l : List Int) : Prop := ∀ b, b ∈ l → 0 ≤ b ∧ b < 256
theorem Byt.at_ {l : List Int} (h : Byt l) {k : Nat} (hk : k < l.length) : 0 ≤ l.getD k 0 ∧ l.getD k 0 < 256 := by
  rw [List.getD_eq_getElem?_getD, List.getElem?_eq_getElem hk]
  exact h _ (List.getElem_mem hk)
theorem mem_take_succ {l : List Int} {k : Nat} (hk : k < l.length) (b : Int) : b ∈ l.take (k + 1) ↔ b ∈ l.take k ∨ b = l.getD k 0 := by
  rw [List.getD_eq_getElem?_getD, List.getElem?_eq_getElem hk]
  rw [show l.take (k + 1) = l.take k ++ [l[k]] by simp]
  simp only [List.mem_append, List.mem_singleton, Option.getD_some]
/-- What is kept beyond a call: below the world's own size. -/
theorem below_trans' {B : Nat} {a b c : World} (h : Below B a b) (hB : B ≤ b.heap.size) (k : Below b.heap.size b c) : Below B a c := h.trans (k.mono hB)
theorem ext_trans {a b c : World} (h : Below a.heap.size a b) (k : Below b.heap.size b c) : Below a.heap.size a c := h.trans (k.mono h.size)
theorem ext_alloc {a b : World} (h : Below a.heap.size a b) (o : Obj) : Below a.heap.size a (b.alloc o) := h.alloc h.size o
theorem ext_refl (a : World) : Below a.heap.size a a := Below.refl _ _
theorem ext_new (a : World) (o : Obj) : Below a.heap.size a (a.alloc o) := ext_alloc (ext_refl a) o
theorem rdI_new (w : World) (k : IntKind) (n : Int) (t : TypeId) : RdI (w.alloc (.cells #[.int k n] t)) k (some ⟨w.heap.size, 0, none⟩) [n] :=
  ⟨by simp, fun _ => ⟨_, rfl, fun j hj => by
    obtain rfl : j = 0 := by simp at hj; omega
    simp [Addr.add]⟩⟩
theorem range_below {w w' : World} {b o : Nat} {cs : List Value} (h : w.rangeAt b o cs) (hb : Below w.heap.size w w') : w'.rangeAt b o cs := fun j v hv =>
  (hb.cell (World.block_lt_of_cell? w _ (h j v hv))).trans (h j v hv)
/-- Cells as a list. -/
def cellsOf (n : Nat) (f : Nat → Value) : List Value := (List.range n).map f
theorem cellsOf_length (n : Nat) (f : Nat → Value) : (cellsOf n f).length = n := by simp [cellsOf]
theorem cellsOf_get {n i : Nat} (f : Nat → Value) (h : i < n) : (cellsOf n f).toArray[i]? = some (f i) := by simp [cellsOf, h]
theorem range_row {w : World} {b : Nat} {t : TypeId} {n : Nat} {f : Nat → Value} (h : w.rowIs b t n f) : w.rangeAt b 0 (cellsOf n f) := fun j v hv => by
  have hj : j < n := by
    have := (List.getElem?_eq_some_iff.1 hv).1
    rwa [cellsOf_length] at this
  rw [Nat.zero_add, h.cell hj]
  simp [cellsOf, hj] at hv
  rw [hv]
/-- The cells that a walk has told of an address. -/
noncomputable def seenAt (w : World) (a : Addr) (n : Nat) : Option (Array Value) :=
  open Classical in if h : ∃ cs : List Value, cs.length = n ∧ a = ⟨a.block, a.off, none⟩ ∧ w.rangeAt a.block a.off cs then some h.choose.toArray else none
theorem seenAt_of {w : World} {b o n : Nat} {cs : List Value} (h : w.rangeAt b o cs) (hl : cs.length = n) : seenAt w ⟨b, o, none⟩ n = some cs.toArray := by
  have hex : ∃ cs : List Value, cs.length = n ∧ (⟨b, o, none⟩ : Addr) = ⟨b, o, none⟩ ∧ w.rangeAt b o cs := ⟨cs, hl, rfl, h⟩
  unfold seenAt
  rw [dif_pos hex]
  obtain ⟨h1, _, h2⟩ := hex.choose_spec
  generalize hex.choose = ds at h1 h2
  congr 2
  apply List.ext_getElem?
  intro i
  by_cases hi : i < n
  · have e1 : ds[i]? = some (ds[i]'(by omega)) := List.getElem?_eq_getElem (by omega)
    have e2 : cs[i]? = some (cs[i]'(by omega)) := List.getElem?_eq_getElem (by omega)
    have := (h2 i _ e1).symm.trans (h i _ e2)
    rw [e1, e2, this]
  · rw [List.getElem?_eq_none (by omega), List.getElem?_eq_none (by omega)]
theorem seenAt_spec {w : World} {a : Addr} {n : Nat} (h : (seenAt w a n).isSome = true) : ∃ cs : List Value, cs.length = n ∧ a = ⟨a.block, a.off, none⟩ ∧ w.rangeAt a.block a.off cs ∧ seenAt w a n = some cs.toArray := by
  unfold seenAt at h ⊢
  split at h
  · rename_i hex
    rw [dif_pos hex]
    exact ⟨_, hex.choose_spec.1, hex.choose_spec.2.1, hex.choose_spec.2.2, rfl⟩
  · cases h
theorem run_loadAt_seen {P : Program} {w : World} {ty : TypeId} {n : Nat} {d : TypeDesc} (hu : P.underlying ty = some d) (hd : d.isRow = true) (hi : (P.info? ty).map (·.size) = some n) (a : Addr)
    (h : (seenAt w a n).isSome = true) : (Instr.loadAt ty (.pointer (some a))).run P w = .ok (.agg ((seenAt w a n).getD #[])) w := by
  obtain ⟨cs, h1, h2, h3, h4⟩ := seenAt_spec h
  rw [h4]
  rw [h2]
  exact run_loadAt_mid w a.block a.off ty cs d h3 hu hd (by rw [h1]; exact hi)
/-- The address in a pointer. -/
def ptrOf : Value → Option Addr
  | .pointer p => p
  | _ => none
noncomputable def seenPtr (w : World) (v : Value) (n : Nat) : Option (Array Value) := (ptrOf v).bind fun a => seenAt w a n
theorem seenPtr_at (w : World) (a : Addr) (n : Nat) : seenPtr w (.pointer (some a)) n = seenAt w a n := rfl
theorem exec_load_seen {P : Program} {w : World} {ty : TypeId} {n : Nat} {d : TypeDesc} (hu : P.underlying ty = some d) (hd : d.isRow = true) (hi : (P.info? ty).map (·.size) = some n)
    (ρ : Operand → Value) (x : Operand) (dst : Option Tmp) (t2 : TypeId) (pos : String) (af : Array Edge) (g : Option (Nat × Bool)) (h : (seenPtr w (ρ x) n).isSome = true) :
    (execOp ρ ⟨dst, .load ty x, t2, pos, af, g⟩).run P w = .ok (.value (.agg ((seenPtr w (ρ x) n).getD #[]))) w := by
  generalize hv : ρ x = v at h
  unfold execOp
  simp only [hv]
  cases v with
  | pointer p =>
    cases p with
    | none => simp [seenPtr, ptrOf] at h
    | some a =>
      rw [seenPtr_at] at h ⊢
      have := run_loadAt_seen hu hd hi a h
      simp only [Sem.run_bind, this, Result.andThen_ok, Sem.run_pure]
  | _ => simp [seenPtr, ptrOf] at h
end Go.Proofs.YthknfjiggdkcaaaDoor
