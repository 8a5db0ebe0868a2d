/- Plain words on memory: slices of one-cell elements that are read, rows of the call's own that are appended to, frames with one block let out. No program in sight. -/
import Derived.WalkKit
import Derived.LoopTactic
import Derived.Deep.OwnRows
import Derived.Lib.Hide
import Derived.Maps.AppendAt
import Derived.Deep.AppendLies
import Derived.Lib.AppendStr
import Derived.RegionTactic
namespace Go.Proofs.Ytlnhiogpjdhhbaa
set_option linter.unusedVariables false
open Go.RowKit

theorem addr_block (a : Addr) (n : Nat) : (a.add n).block = a.block := by unfold Addr.add; split <;> rfl
theorem addr_add_add (a : Addr) (i j : Nat) : (a.add i).add j = a.add (i + j) := by
  unfold Addr.add
  by_cases hi : i = 0 <;> by_cases hj : j = 0 <;> simp [hi, hj, Nat.add_assoc]

structure Sl (w : World) (A : Option Addr) (c : Nat) (xs : List Value) : Prop where
  cap : xs.length ≤ c
  max : c ≤ 9223372036854775807
  nil : A = none → c = 0
  cell : ∀ ad, A = some ad → ∀ j u, xs[j]? = some u → w.cell? (ad.add j) = some u
namespace Sl
variable {w w' : World} {A : Option Addr} {c : Nat} {xs : List Value}
theorem none_ (w : World) : Sl w none 0 [] := ⟨Nat.le_refl _, by omega, fun _ => rfl, fun _ h => by cases h⟩
theorem at_ (h : Sl w A c xs) {k : Nat} (hk : k < xs.length) : ∃ ad, A = some ad ∧ w.cell? (ad.add k) = some xs[k] := by
  cases A with
  | none => have := h.nil rfl; have := h.cap; omega
  | some ad => exact ⟨ad, rfl, h.cell ad rfl k _ (List.getElem?_eq_getElem hk)⟩
theorem keep (h : Sl w A c xs) (hk : ∀ a u, w.cell? a = some u → (∃ ad j, A = some ad ∧ a = ad.add j) → w'.cell? a = some u) : Sl w' A c xs :=
  ⟨h.cap, h.max, h.nil, fun ad e j u hu => hk _ _ (h.cell ad e j u hu) ⟨ad, j, e, rfl⟩⟩
theorem below (h : Sl w A c xs) (hb : Below w.heap.size w w') : Sl w' A c xs :=
  h.keep fun a u hc _ => (hb.cell (World.block_lt_of_cell? w a hc)).trans hc
theorem grown (h : Sl w A c xs) {row : Option Nat} (hg : w.grownBy w' row) (hne : ∀ ad, A = some ad → some ad.block ≠ row) : Sl w' A c xs :=
  h.keep fun a u hc ⟨ad, j, e, ea⟩ => hg.cell hc (by rw [ea, addr_block]; exact hne ad e)
theorem set (h : Sl w A c xs) {p : Addr} (hne : ∀ ad, A = some ad → xs ≠ [] → ad.block ≠ p.block) (u : Value) : Sl (w.setCell p u) A c xs :=
  ⟨h.cap, h.max, h.nil, fun ad e j v hv => by
    have hx : xs ≠ [] := by
      rintro rfl
      simp at hv
    have hc := h.cell ad e j v hv
    exact (World.cell?_of_block (w := w) (Below.heap_setCell w p u (ad.add j).block (by rw [addr_block]; exact hne ad e hx))).trans hc⟩
theorem alloc (h : Sl w A c xs) (o : Obj) : Sl (w.alloc o) A c xs := h.below ((Below.refl _ w).alloc (Nat.le_refl _) o)
theorem drew (h : Sl w A c xs) : Sl w.drew A c xs := ⟨h.cap, h.max, h.nil, h.cell⟩
theorem take (h : Sl w A c xs) (k : Nat) : Sl w A c (xs.take k) :=
  ⟨by have := h.cap; rw [List.length_take]; omega, h.max, h.nil, fun ad e j u hu => h.cell ad e j u (by
    rw [List.getElem?_take] at hu
    split at hu
    · exact hu
    · cases hu)⟩
theorem drop (h : Sl w A c xs) {k : Nat} (hk : k ≤ xs.length) : Sl w (if c = k then A else A.map (·.add k)) (c - k) (xs.drop k) := by
  have := h.cap; have := h.max
  refine ⟨by rw [List.length_drop]; omega, by omega, fun e => ?_, fun ad e j u hu => ?_⟩
  · by_cases hck : c = k
    · omega
    · rw [if_neg hck] at e
      cases A with
      | none => have := h.nil rfl; omega
      | some a => cases e
  · rw [List.getElem?_drop] at hu
    have hj : k + j < xs.length := (List.getElem?_eq_some_iff.1 hu).1
    rw [if_neg (by omega)] at e
    cases A with
    | none => cases e
    | some a =>
      simp only [Option.map_some, Option.some.injEq] at e
      subst e
      rw [addr_add_add]
      exact h.cell a rfl _ u hu
theorem lt (h : Sl w A c xs) (hx : 0 < xs.length) : ∀ ad, A = some ad → ad.block < w.heap.size := fun ad e => by
  have := World.block_lt_of_cell? w _ (h.cell ad e 0 _ (List.getElem?_eq_getElem hx))
  rwa [addr_block] at this
end Sl

def Ow (w : World) (base : Nat) (e : TypeId) (v : Value) (xs : List Value) : Prop := w.ownsRow base e 1 v xs.length xs
namespace Ow
variable {w w' : World} {base : Nat} {e : TypeId} {v : Value} {xs : List Value}
theorem nil (w : World) (base : Nat) (e : TypeId) : Ow w base e (.slice none 0 0) [] := World.ownsRow_nil w base e 1
theorem sl (h : Ow w base e v xs) : ∃ A c, v = .slice A xs.length c ∧ Sl w A c xs ∧ ∀ ad, A = some ad → base ≤ ad.block ∧ v.ownBlock = some ad.block := by
  rcases h.2 with ⟨rfl, h0⟩ | ⟨g, cap, cur, hv, hb, hg, hn, hm, hs, ht⟩
  · have : xs = [] := List.eq_nil_of_length_eq_zero h0
    subst this
    exact ⟨none, 0, rfl, Sl.none_ w, fun _ e => by cases e⟩
  · refine ⟨some ⟨g, 0, none⟩, cap, hv, ⟨hn, by unfold maxLen at hm; omega, fun e => (by cases e), fun ad e j u hu => ?_⟩, fun ad e => ?_⟩
    · cases e
      exact World.ownsRow.cells h (g := g) (by rw [hv]; rfl) j u hu
    · cases e
      exact ⟨hb, by rw [hv]; rfl⟩
theorem kept {row : Option Nat} (h : Ow w base e v xs) (hg : w.grownBy w' row) (hne : v.ownBlock = none ∨ v.ownBlock ≠ row) : Ow w' base e v xs := World.ownsRow.kept h hg hne
theorem alloc (h : Ow w base e v xs) (o : Obj) : Ow (w.alloc o) base e v xs := World.ownsRow.alloc h o
theorem lt (h : Ow w base e v xs) : ∀ k, v.ownBlock = some k → base ≤ k ∧ k < w.heap.size := World.ownsRow.lt h
theorem far (h : Ow w base e v xs) {a : Addr} (ha : v.ownBlock ≠ some a.block) (u : Value) : Ow (w.setCell a u) base e v xs := by
  refine h.kept (row := some a.block) ⟨rfl, rfl, rfl, by simp [World.setCell], fun k hk hne => ?_⟩ (.inr ha)
  simp only [World.setCell, Array.getElem?_modify]
  rw [if_neg (fun e => hne (by rw [e]))]
end Ow

section
variable {P : Program} (w : World)
theorem run_append_sl (base : Nat) (t ty e : TypeId) (i : TypeInfo) (z : Value) (bytes : Nat) (ht : P.underlying t = some (.slice e)) (hi : P.info? e = some i) (hz : i.zero = some z)
    (hsize : i.size = 1) (hby : i.bytes = bytes) (hzs : z.cells.size = 1) (v : Value) (xs : List Value) (hown : Ow w base e v xs)
    (A : Option Addr) (c : Nat) (news : List Value) (hr : Sl w A c news) (h1 : ∀ u ∈ news, u.oneCell' = true)
    (hbytes : (xs.length + news.length) * bytes ≤ 140737488355328) (h0 : 0 < bytes) (hbase : base ≤ w.heap.size) :
    ∃ v' w', (Builtin.append_ #[t, t] ty #[v, .slice A news.length c]).run P w = .ok v' w' ∧ Ow w' base e v' (xs ++ news) ∧ w.grownBy w' v.ownBlock ∧ (v'.ownBlock = v.ownBlock ∨ v'.ownBlock = some w.heap.size) := by
  have h63 : xs.length + news.length ≤ maxLen := by
    have : xs.length + news.length ≤ (xs.length + news.length) * bytes := Nat.le_mul_of_pos_right _ h0
    unfold maxLen
    omega
  cases A with
  | none =>
    have hc : c = 0 := hr.nil rfl
    subst hc
    have hn : news = [] := List.eq_nil_of_length_eq_zero (by have := hr.cap; omega)
    subst hn
    exact ⟨v, w, run_append_owned_none w base t ty e i 1 ht hi v xs.length xs hown, by simpa using hown, World.grownBy.refl w _, .inl rfl⟩
  | some ad =>
    obtain ⟨v', w', hrun, h2, h3, _, h5⟩ := run_append_own_at (P := P) w base t ty e i z 1 bytes ht hi hz hsize hby hzs (by omega) v xs.length xs hown ad news.length c news (by omega) (fun j u hu => hr.cell ad rfl j u hu) h1 h63 hbytes hbase
    refine ⟨v', w', hrun, ?_, h3, h5⟩
    unfold Ow
    rw [List.length_append]
    exact h2
theorem wp_append_sl {o : Oper} {a : Act} {K : Act → World → Prop} {Q : Exit → Act → World → Prop} (s x : Operand) (t : TypeId)
    (ho : o.op = .call { callee := .builtin .append, args := #[s, x], argTypes := #[t, t] })
    (base : Nat) (e : TypeId) (i : TypeInfo) (z : Value) (bytes : Nat) (ht : P.underlying t = some (.slice e)) (hi : P.info? e = some i) (hz : i.zero = some z)
    (hsize : i.size = 1) (hby : i.bytes = bytes) (hzs : z.cells.size = 1) (v : Value) (xs : List Value) (hs : a.eval s = v) (hown : Ow w base e v xs)
    (A : Option Addr) (c : Nat) (news : List Value) (hx : a.eval x = .slice A news.length c) (hr : Sl w A c news) (h1 : ∀ u ∈ news, u.oneCell' = true)
    (hbytes : (xs.length + news.length) * bytes ≤ 140737488355328) (h0 : 0 < bytes) (hbase : base ≤ w.heap.size)
    (h : ∀ v' w', Ow w' base e v' (xs ++ news) → w.grownBy w' v.ownBlock → (v'.ownBlock = v.ownBlock ∨ v'.ownBlock = some w.heap.size) → K (a.put o.dst v') w') : o.wp P a w K Q := by
  obtain ⟨v', w', hrun, h2, h3, h4⟩ := run_append_sl (P := P) w base t o.type e i z bytes ht hi hz hsize hby hzs v xs hown A c news hr h1 hbytes h0 hbase
  unfold Oper.wp execOp
  simp only [ho, resolve, invoke, builtin, Sem.run_bind, Sem.run_pure, Result.andThen_ok, List.map_toArray, List.map_cons, List.map_nil, hs, hx, hrun]
  exact h v' w' h2 h3 h4
theorem wpList_append_sl {ops : Array Oper} {rest : List Oper} {o : Oper} {a : Act} {Q : Exit → Act → World → Prop} (hgd : o.guard = none) (s x : Operand) (t : TypeId)
    (ho : o.op = .call { callee := .builtin .append, args := #[s, x], argTypes := #[t, t] })
    (base : Nat) (e : TypeId) (i : TypeInfo) (z : Value) (bytes : Nat) (ht : P.underlying t = some (.slice e)) (hi : P.info? e = some i) (hz : i.zero = some z)
    (hsize : i.size = 1) (hby : i.bytes = bytes) (hzs : z.cells.size = 1) (v : Value) (xs : List Value) (hs : a.eval s = v) (hown : Ow w base e v xs)
    (A : Option Addr) (c : Nat) (news : List Value) (hx : a.eval x = .slice A news.length c) (hr : Sl w A c news) (h1 : ∀ u ∈ news, u.oneCell' = true)
    (hbytes : (xs.length + news.length) * bytes ≤ 140737488355328) (h0 : 0 < bytes) (hbase : base ≤ w.heap.size)
    (h : ∀ v' w', Ow w' base e v' (xs ++ news) → w.grownBy w' v.ownBlock → (v'.ownBlock = v.ownBlock ∨ v'.ownBlock = some w.heap.size) → wpList P ops Q rest (a.put o.dst v') w') : wpList P ops Q (o :: rest) a w :=
  wpList_plain hgd fun _ hK => wp_append_sl w s x t ho base e i z bytes ht hi hz hsize hby hzs v xs hs hown A c news hx hr h1 hbytes h0 hbase fun v' w' h2 h3 h4 => hK _ _ (h v' w' h2 h3 h4)
end

structure Fr (B g : Nat) (w w' : World) : Prop where
  os : w'.os = w.os
  tape : w'.tape = w.tape
  output : w'.output = w.output
  size : w.heap.size ≤ w'.heap.size
  block : ∀ k, k < B → k ≠ g → w'.heap[k]? = w.heap[k]?
namespace Fr
variable {B g : Nat} {a w w' : World}
theorem refl (B g : Nat) (w : World) : Fr B g w w := ⟨rfl, rfl, rfl, Nat.le_refl _, fun _ _ _ => rfl⟩
theorem trans (h : Fr B g a w) (k : Fr B g w w') : Fr B g a w' := ⟨k.os.trans h.os, k.tape.trans h.tape, k.output.trans h.output, Nat.le_trans h.size k.size, fun i hi hn => (k.block i hi hn).trans (h.block i hi hn)⟩
theorem below {B' : Nat} (h : Fr B g w w') (h1 : B' ≤ B) (h2 : B' ≤ g) : Below B' w w' := ⟨h.os, h.tape, h.output, h.size, fun k hk => h.block k (by omega) (by omega)⟩
theorem of_below {B' : Nat} (h : Below B' w w') (hB : B ≤ B') : Fr B g w w' := ⟨h.os, h.tape, h.output, h.size, fun k hk _ => h.block k (by omega)⟩
theorem grown {row : Option Nat} (h : Fr B g a w) (hg : w.grownBy w' row) (hB : B ≤ w.heap.size) (hr : ∀ k, row = some k → B ≤ k ∨ k = g) : Fr B g a w' :=
  h.trans ⟨hg.os, hg.tape, hg.output, hg.size, fun k hk hn => hg.block k (by omega) (fun e => by rcases hr k e.symm with h | h <;> omega)⟩
theorem drew (h : Fr B g a w) : Fr B g a w.drew := ⟨h.os, h.tape, h.output, h.size, h.block⟩
theorem alloc (h : Fr B g a w) (hB : B ≤ w.heap.size) (o : Obj) : Fr B g a (w.alloc o) := h.trans (of_below ((Below.refl B w).alloc hB o) (Nat.le_refl _))
theorem setCell (h : Fr B g a w) {p : Addr} (hp : B ≤ p.block ∨ p.block = g) (u : Value) : Fr B g a (w.setCell p u) :=
  h.trans ⟨rfl, rfl, rfl, by simp [World.setCell], fun k hk hn => Below.heap_setCell _ _ _ _ (by rintro rfl; rcases hp with h | h <;> omega)⟩
theorem cell (h : Fr B g w w') {p : Addr} (h1 : p.block < B) (h2 : p.block ≠ g) : w'.cell? p = w.cell? p := World.cell?_of_block (w := w) (h.block p.block h1 h2)
theorem mono {B' : Nat} (h : Fr B g w w') (hB : B' ≤ B) : Fr B' g w w' := ⟨h.os, h.tape, h.output, h.size, fun k hk => h.block k (by omega)⟩
theorem sl {A : Option Addr} {c : Nat} {xs : List Value} (h : Fr B g w w') (hs : Sl w A c xs) (hA : ∀ ad, A = some ad → ad.block < B ∧ ad.block ≠ g) : Sl w' A c xs :=
  hs.keep fun a u hc ⟨ad, j, e, ea⟩ => (h.cell (by rw [ea, addr_block]; exact (hA ad e).1) (by rw [ea, addr_block]; exact (hA ad e).2)).trans hc
end Fr
theorem blk_cell {w : World} {g : Nat} {cs : Array Value} {t : TypeId} {fr : Nat × Nat} (h : w.heap[g]? = some (.cells cs t fr)) (j : Nat) : w.cell? ⟨g, j, none⟩ = cs[j]? := cell_of_row w g j cs t fr h
theorem blk_frozen {w : World} {g : Nat} {cs : Array Value} {t : TypeId} (h : w.heap[g]? = some (.cells cs t (0, 0))) (j : Nat) : w.frozen? ⟨g, j, none⟩ = false := frozen_of_row w g j cs t h
theorem blk_lt {w : World} {g : Nat} {o : Obj} (h : w.heap[g]? = some o) : g < w.heap.size := (Array.getElem?_eq_some_iff.1 h).1
theorem blk_set {w : World} {g : Nat} {cs : Array Value} {t : TypeId} (h : w.heap[g]? = some (.cells cs t (0, 0))) (i : Nat) (u : Value) : (w.setCell ⟨g, i, none⟩ u).heap[g]? = some (.cells (cs.setIfInBounds i u) t (0, 0)) := heap_setCell_same w g i cs t u h
theorem blk_far {w : World} {g : Nat} {o : Obj} (h : w.heap[g]? = some o) {p : Addr} (hne : g ≠ p.block) (u : Value) : (w.setCell p u).heap[g]? = some o := (Below.heap_setCell w p u g hne).trans h
theorem blk_alloc {w : World} {g : Nat} {o : Obj} (h : w.heap[g]? = some o) (b : Obj) : (w.alloc b).heap[g]? = some o := (Below.heap_alloc w b g (blk_lt h)).trans h
theorem blk_grown {w w' : World} {g : Nat} {o : Obj} (h : w.heap[g]? = some o) {row : Option Nat} (hg : w.grownBy w' row) (hne : row ≠ some g) : w'.heap[g]? = some o := (hg.block g (blk_lt h) (fun e => hne e.symm)).trans h
theorem blk_below {w w' : World} {g : Nat} {o : Obj} (h : w.heap[g]? = some o) (hb : Below w.heap.size w w') : w'.heap[g]? = some o := (hb.block g (blk_lt h)).trans h
end Go.Proofs.Ytlnhiogpjdhhbaa
