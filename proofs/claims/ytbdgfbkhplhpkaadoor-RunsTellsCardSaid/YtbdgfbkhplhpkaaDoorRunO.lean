/- Own rows of runs: appending one run. -/
import Derived.Test.YtbdgfbkhplhpkaaDoorRunW
import Derived.Maps.AppendAt
import Derived.Deep.AppendLies
namespace Go.Proofs.YtbdgfbkhplhpkaaDoor
open Go.RowKit

theorem infoRun : (Tryd.prog.info? 31).map (fun i => (i.zero, i.size, i.bytes)) = some (some (.agg #[.int .u8 0, .int .i64 0]), 2, 16) := by kernel_rfl
/-- Runs as cells. -/
def rcells : List Rn → List Value
  | [] => []
  | r :: rs => .int .u8 (r.1.toNat : Int) :: .int .i64 r.2 :: rcells rs
theorem rcells_length (rs : List Rn) : (rcells rs).length = rs.length * 2 := by
  induction rs with
  | nil => rfl
  | cons r rs ih => simp [rcells, ih]; omega
theorem rcells_append (rs ss : List Rn) : rcells (rs ++ ss) = rcells rs ++ rcells ss := by
  induction rs with
  | nil => rfl
  | cons r rs ih => simp [rcells, ih]
theorem rcells_get (rs : List Rn) (j : Nat) (hj : j < rs.length) : (rcells rs)[j * 2]? = some (.int .u8 ((rB rs j).toNat : Int)) ∧ (rcells rs)[j * 2 + 1]? = some (.int .i64 (rT rs j)) := by
  induction rs generalizing j with
  | nil => simp at hj
  | cons r rs ih =>
    cases j with
    | zero => simp [rcells, rB, rT]
    | succ j =>
      have := ih j (by simpa using hj)
      rw [show (j + 1) * 2 = j * 2 + 1 + 1 by omega]
      simp only [rcells, List.getElem?_cons_succ]
      simpa [rB, rT] using this
/-- A row of runs of the call's own. -/
def OwR (w : World) (base : Nat) (v : Value) (rs : List Rn) : Prop := w.ownsRow base 31 2 v rs.length (rcells rs)
namespace OwR
variable {w w' : World} {base : Nat} {v : Value} {rs : List Rn}
theorem nil (w : World) (base : Nat) : OwR w base (.slice none 0 0) [] := World.ownsRow_nil w base 31 2
theorem sl (h : OwR w base v rs) : ∃ A c, v = .slice A rs.length c ∧ Rs w A c rs ∧ ∀ ad, A = some ad → base ≤ ad.block ∧ v.ownBlock = some ad.block := by
  rcases h.2 with ⟨rfl, h0⟩ | ⟨g, cap, cur, hv, hb, hg, hn, hm, hs, ht⟩
  · have : rs = [] := List.eq_nil_of_length_eq_zero h0
    subst this
    exact ⟨none, 0, rfl, Rs.none_ w, fun _ e => by cases e⟩
  · refine ⟨some ⟨g, 0, none⟩, cap, hv, ⟨hn, by unfold maxLen at hm; omega, fun e => (by cases e), fun ad e j hj => ?_⟩, fun ad e => ?_⟩
    · cases e
      have k := World.ownsRow.cells h (g := g) (by rw [hv]; rfl)
      obtain ⟨h1, h2⟩ := rcells_get rs j hj
      have k1 := k _ _ h1
      have k2 := k _ _ h2
      refine ⟨k1, ?_⟩
      rw [Addr.add_lit] at k2 ⊢
      simpa [Nat.add_assoc] using k2
    · cases e
      exact ⟨hb, by rw [hv]; rfl⟩
theorem kept {row : Option Nat} (h : OwR w base v rs) (hg : w.grownBy w' row) (hne : v.ownBlock = none ∨ v.ownBlock ≠ row) : OwR w' base v rs := World.ownsRow.kept h hg hne
theorem alloc (h : OwR w base v rs) (o : Obj) : OwR (w.alloc o) base v rs := World.ownsRow.alloc h o
theorem lt (h : OwR w base v rs) : ∀ k, v.ownBlock = some k → base ≤ k ∧ k < w.heap.size := World.ownsRow.lt h
theorem fr {g : Nat} (h : OwR w base v rs) (hf : Fr w.heap.size g w w') (hg : g < base) : OwR w' base v rs :=
  h.kept (row := some g) ⟨hf.os, hf.tape, hf.output, hf.size, fun k hk hn => hf.block k hk (fun e => hn (by rw [e]))⟩ (.inr fun e => by have := h.lt g e; omega)
theorem far (h : OwR w base v rs) {a : Addr} (ha : a.block < base) (u : Value) : OwR (w.setCell a u) base v rs := by
  refine h.kept (row := some a.block) ⟨rfl, rfl, rfl, by simp [World.setCell], fun k hk hne => ?_⟩ (.inr fun e => by have := h.lt _ e; omega)
  simp only [World.setCell, Array.getElem?_modify]
  rw [if_neg (fun e => hne (by rw [e]))]
end OwR

theorem step_append_run {w : World} {ops : Array Oper} {o : Oper} {a : Act} {K : Act → World → Prop} {Q : Exit → Act → World → Prop} {E : Prop} (hgd : o.guard = none) (s x : Operand) (t : TypeId)
    (ho : o.op = .call { callee := .builtin .append, args := #[s, x], argTypes := #[t, t] })
    (base : Nat) (i : TypeInfo) (z : Value) (ht : Tryd.prog.underlying t = some (.slice 31)) (hi : Tryd.prog.info? 31 = some i) (hz : i.zero = some z)
    (hsize : i.size = 2) (hby : i.bytes = 16) (hzs : z.cells.size = 2) (v : Value) (rs : List Rn) (hs : a.eval s = v) (hown : OwR w base v rs)
    (ad : Addr) (r : Rn) (hx : a.eval x = .slice (some ad) 1 1) (hr0 : w.cell? (ad.add 0) = some (.int .u8 (r.1.toNat : Int))) (hr1 : w.cell? (ad.add 1) = some (.int .i64 r.2))
    (hbytes : rs.length ≤ 100000) (hbase : base ≤ w.heap.size)
    (h : ∀ v' w', OwR w' base v' (rs ++ [r]) → w.grownBy w' v.ownBlock → (v'.ownBlock = v.ownBlock ∨ v'.ownBlock = some w.heap.size) → K (a.put o.dst v') w') : if Region.wanted o (yielded ops a.tmps) = true then Oper.wp Tryd.prog o a w K Q else E := by
  rw [if_pos (by simp [Region.wanted, hgd])]
  obtain ⟨v', w', hrun, h2, h3, _, h5⟩ := run_append_own_at (P := Tryd.prog) w base t o.type 31 i z 2 16 ht hi hz hsize hby hzs (by omega) v rs.length (rcells rs) hown ad 1 1 [.int .u8 (r.1.toNat : Int), .int .i64 r.2] rfl
    (fun j u hu => by
      match j, hu with
      | 0, hu => cases hu; exact hr0
      | 1, hu => cases hu; exact hr1)
    (fun u hu => by
      simp only [List.mem_cons, List.not_mem_nil, or_false] at hu
      rcases hu with rfl | rfl <;> rfl) (by unfold maxLen; omega) (by omega) hbase
  unfold Oper.wp execOp
  simp only [ho, resolve, invoke, builtin, Sem.run_bind, Sem.run_pure, Result.andThen_ok, List.map_toArray, List.map_cons, List.map_nil, hs, hx, hrun]
  refine h v' w' ?_ h3 h5
  unfold OwR
  rw [rcells_append, List.length_append]
  exact h2
end Go.Proofs.YtbdgfbkhplhpkaaDoor
