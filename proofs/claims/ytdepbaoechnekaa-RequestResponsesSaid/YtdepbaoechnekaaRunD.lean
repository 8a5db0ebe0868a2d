/- The walk of package request's DecodeResponse. -/
import Derived.Test.YtdepbaoechnekaaRunW
import Derived.Test.YtdepbaoechnekaaRunO
import Derived.Test.YtdepbaoechnekaaReqD
import Derived.Deep.RegionLaw
namespace Go.Proofs.Ytdepbaoechnekaa
open Go.RowKit

def toI (n : Nat) : Int := wrap64 n
theorem toI_64 (n : Nat) : I64 (toI n) := by unfold toI I64 wrap64; omega
/-- So many runs that are read. -/
def rdRuns (p : RdSt) : Nat → List Rn × RdSt
  | 0 => ([], p)
  | k + 1 => ((rdRuns p k).1 ++ [(UInt8.ofNat (rdNum (rdRuns p k).2 1), toI (rdNum (rdNumR (rdRuns p k).2 1) 8))], rdNumR (rdNumR (rdRuns p k).2 1) 8)
theorem rdRuns_length (p : RdSt) (k : Nat) : (rdRuns p k).1.length = k := by
  induction k with
  | zero => rfl
  | succ k ih => simp [rdRuns, ih]
theorem rdRuns_le (p : RdSt) (k : Nat) : (rdRuns p k).2.1.length ≤ p.1.length := by
  induction k with
  | zero => exact Nat.le_refl _
  | succ k ih => exact Nat.le_trans (rdNumR_le _ _) (Nat.le_trans (rdNumR_le _ _) ih)
theorem rT_I64 {rs : List Rn} (h : ∀ r ∈ rs, I64 r.2) (i : Nat) : I64 (rT rs i) := by
  unfold rT
  rw [List.getD_eq_getElem?_getD]
  cases e : rs[i]? with
  | none => unfold I64; simp
  | some r => exact h r (List.mem_of_getElem? e)
theorem rdRuns_I64 (p : RdSt) (k : Nat) : ∀ r ∈ (rdRuns p k).1, I64 r.2 := by
  induction k with
  | zero => intro r hr; simp [rdRuns] at hr
  | succ k ih =>
    intro r hr
    simp only [rdRuns, List.mem_append, List.mem_singleton] at hr
    rcases hr with hr | rfl
    · exact ih r hr
    · exact toI_64 _
structure DecR where
  E : Nat
  P : Nat
  y : Nat
  t : List UInt8
  N : Nat
  rs : List Rn
  e : RdSt
def decR (l : List UInt8) : DecR :=
  let p0 : RdSt := (l, false)
  let p1 := rdNumR p0 1
  let p2 := rdNumR p1 2
  let p3 := rdNumR p2 1
  let p4 := rdTextR p3
  let p5 := rdNumR p4 8
  let p6 := rdNumR p5 1
  { E := rdNum p0 1, P := rdNum p1 2, y := rdNum p2 1, t := rdText p3, N := rdNum p4 8, rs := (rdRuns p6 (rdNum p5 1)).1, e := (rdRuns p6 (rdNum p5 1)).2 }
noncomputable def DecR.ok (d : DecR) : Bool := (!d.e.2 && decide (d.e.1 = [])) && (decide (d.y ≤ 1) && runsOk d.rs)

theorem blk_set6 {w : World} {g : Nat} {a b c d e f a' b' c' d' e' f' : Value} {t : TypeId} (h : w.heap[g]? = some (.cells #[a, b, c, d, e, f] t)) :
    ((((((w.setCell ⟨g, 0, none⟩ a').setCell ⟨g, 1, none⟩ b').setCell ⟨g, 2, none⟩ c').setCell ⟨g, 3, none⟩ d').setCell ⟨g, 4, none⟩ e').setCell ⟨g, 5, none⟩ f').heap[g]? = some (.cells #[a', b', c', d', e', f'] t) := by
  have h1 := blk_set h 0 a'
  have h2 := blk_set h1 1 b'
  have h3 := blk_set h2 2 c'
  have h4 := blk_set h3 3 d'
  have h5 := blk_set h4 4 e'
  exact blk_set h5 5 f'
theorem below_set6 {B : Nat} {a w : World} (h : Below B a w) {g : Nat} (hg : B ≤ g) (x0 x1 x2 x3 x4 x5 : Value) :
    Below B a ((((((w.setCell ⟨g, 0, none⟩ x0).setCell ⟨g, 1, none⟩ x1).setCell ⟨g, 2, none⟩ x2).setCell ⟨g, 3, none⟩ x3).setCell ⟨g, 4, none⟩ x4).setCell ⟨g, 5, none⟩ x5) :=
  (below_set5 h hg x0 x1 x2 x3 x4).setCell hg _
theorem rs_set6 {w : World} {A : Option Addr} {c : Nat} {xs : List Rn} (h : Rs w A c xs) {g : Nat} (hg : ∀ ad, A = some ad → ad.block ≠ g) (x0 x1 x2 x3 x4 x5 : Value) :
    Rs ((((((w.setCell ⟨g, 0, none⟩ x0).setCell ⟨g, 1, none⟩ x1).setCell ⟨g, 2, none⟩ x2).setCell ⟨g, 3, none⟩ x3).setCell ⟨g, 4, none⟩ x4).setCell ⟨g, 5, none⟩ x5) A c xs :=
  (((((h.set (fun ad e _ => hg ad e) _).set (fun ad e _ => hg ad e) _).set (fun ad e _ => hg ad e) _).set (fun ad e _ => hg ad e) _).set (fun ad e _ => hg ad e) _).set (fun ad e _ => hg ad e) _
theorem post_row_tmp6 {P : Program} {fn : Func} {R : Ending → World → Prop} {a : Act} {w : World} {p u : Tmp} {T t : TypeId} {g : Nat} {cs : Array Value} {fr : Nat × Nat} {d : TypeDesc} {x : Value}
    (hr : fn.results = #[.cell p T, .tmp u]) (hp : a.tmps.getD p undef = .pointer (some ⟨g, 0, none⟩)) (hg : w.heap[g]? = some (.cells cs t fr))
    (hu : P.underlying T = some d) (hd : (match d with | .struct _ | .array _ _ => true | _ => false) = true) (hi : (P.info? T).map (·.size) = some cs.size) (hx : a.tmps.getD u undef = x) (hdf : a.defers = [])
    (hR : R (.returned (.tuple #[.agg cs, x])) w) : bodyPost P fn R .ret a w := post_row_tmp hr hp hg hu hd hi hx hdf hR
theorem infoS : (Try.prog.info? 38).map (·.size) = some 6 := by kernel_rfl
theorem s_cells {w : World} {g : Nat} {a b c d e f : Value} {t : TypeId} (h : w.heap[g]? = some (.cells #[a, b, c, d, e, f] t)) :
    w.cell? ⟨g, 0, none⟩ = some a ∧ w.cell? ⟨g, 1, none⟩ = some b ∧ w.cell? ⟨g, 2, none⟩ = some c ∧ w.cell? ⟨g, 3, none⟩ = some d ∧ w.cell? ⟨g, 4, none⟩ = some e ∧ w.cell? ⟨g, 5, none⟩ = some f :=
  ⟨blk_cell h 0, blk_cell h 1, blk_cell h 2, blk_cell h 3, blk_cell h 4, blk_cell h 5⟩

/-- What stands between two calls of the reader: the result's box, the reader, all that was there. -/
structure DS (w : World) (wi : World) (p : RdSt) : Prop where
  res : wi.heap[w.heap.size]? = some (.cells #[.int .i64 0, .int .i64 0, .bool false, .string ⟨#[]⟩, .int .i64 0, .slice none 0 0] 38)
  inp : InIs wi w.heap.size (w.heap.size + 1) p.1 p.2
  ext : Below w.heap.size w wi
  lt : w.heap.size + 2 ≤ wi.heap.size
namespace DS
variable {w wi wj : World} {p q : RdSt}
theorem next (h : DS w wi p) (hi : InIs wj w.heap.size (w.heap.size + 1) q.1 q.2) (hf : Fr wi.heap.size (w.heap.size + 1) wi wj) : DS w wj q := by
  have := h.lt
  have := hf.size
  exact ⟨(hf.block _ (by omega) (by omega)).trans h.res, hi, h.ext.trans (hf.below (by omega) (by omega)), by omega⟩
theorem below (h : DS w wi p) (hb : Below wi.heap.size wi wj) : DS w wj p :=
  ⟨blk_below h.res hb, h.inp.below hb, h.ext.trans (hb.mono (by have := h.lt; omega)), by have := h.lt; have := hb.size; omega⟩
theorem alloc (h : DS w wi p) (o : Obj) : DS w (wi.alloc o) p := h.below ((Below.refl _ _).alloc (Nat.le_refl _) o)
theorem drew (h : DS w wi p) : DS w wi.drew p := h.below (Below.refl _ _).drew
theorem set (h : DS w wi p) {a : Addr} (h1 : w.heap.size + 1 < a.block) (u : Value) : DS w (wi.setCell a u) p :=
  ⟨blk_far h.res (by omega) u, h.inp.set (by omega) (by omega) u, h.ext.setCell (by omega) u, by have := h.lt; simpa [World.setCell] using this⟩
theorem grown (h : DS w wi p) {row : Option Nat} (hg : wi.grownBy wj row) (hr : ∀ k, row = some k → w.heap.size + 2 ≤ k) : DS w wj p := by
  obtain ⟨h1, ⟨A, c, h2, h3, h4⟩, h5, h6⟩ := h
  refine ⟨blk_grown h1 hg (fun e => by have := hr _ e; omega), ⟨A, c, blk_grown h2 hg (fun e => by have := hr _ e; omega), ?_, h4⟩, h5.grown hg (by omega) (fun k e => by have := hr k e; omega), by have := hg.size; omega⟩
  refine ⟨h3.cap, h3.max, h3.nil, fun ad e j u hu => ?_⟩
  have hne : p.1 ≠ [] := by
    intro hl
    rw [hl] at hu
    simp [byc] at hu
  have hb := h4 ad e hne
  exact hg.cell (h3.cell ad e j u hu) (by rw [addr_block]; exact fun e' => by have := hr _ e'.symm; omega)
end DS
/-- .. and, in the loop: the response's box, the runs that are read. -/
structure LS (w : World) (Qn : Nat) (cs : Array Value) (v : Value) (rs : List Rn) (wi : World) (p : RdSt) : Prop where
  ds : DS w wi p
  blk : wi.heap[Qn]? = some (.cells cs 38)
  own : OwR wi (Qn + 1) v rs
  lt : w.heap.size + 2 ≤ Qn
theorem LS.next {w wi wj : World} {Qn : Nat} {cs : Array Value} {v : Value} {rs : List Rn} {p q : RdSt} (h : LS w Qn cs v rs wi p) (hi : InIs wj w.heap.size (w.heap.size + 1) q.1 q.2) (hf : Fr wi.heap.size (w.heap.size + 1) wi wj) : LS w Qn cs v rs wj q :=
  ⟨h.ds.next hi hf, (hf.block _ (blk_lt h.blk) (by have := h.lt; omega)).trans h.blk, h.own.fr hf (by have := h.lt; omega), h.lt⟩
theorem LS.append {w wi wj : World} {Qn : Nat} {cs : Array Value} {v v2 : Value} {rs rs2 : List Rn} {p : RdSt} {o : Obj} (h : LS w Qn cs v rs wi p) (hg : (wi.alloc o).grownBy wj v.ownBlock) (ho : OwR wj (Qn + 1) v2 rs2) : LS w Qn cs v2 rs2 wj p := by
  have hr : ∀ k, v.ownBlock = some k → Qn + 1 ≤ k := fun k e => (h.own.lt k e).1
  have := h.lt
  exact ⟨(h.ds.alloc o).grown hg (fun k e => by have := hr k e; omega), blk_grown (blk_alloc h.blk o) hg (fun e => by have := hr _ e; omega), ho, h.lt⟩
theorem LS.base {w wi : World} {Qn : Nat} {cs : Array Value} {v : Value} {rs : List Rn} {p : RdSt} (h : LS w Qn cs v rs wi p) (o : Obj) : Qn + 1 ≤ (wi.alloc o).heap.size := by have := blk_lt h.blk; simp; omega
end Go.Proofs.Ytdepbaoechnekaa
