import Derived.Test.YtlnhiogpjdhhbaaProg
import Derived.Shelf.Abstract
import Derived.Below
import Derived.Deep.Draws
import Derived.Deep.AppendLies
import Derived.Maps.AppendAt
import Derived.OwnWalk
import Derived.Laws.BytesArg
import Derived.Laws.MakeOwn
import Derived.Laws.OwnMore
import Derived.Deep.OwnRows
import Derived.Tactics
import Derived.Lib.ConvBytes
import Derived.Laws.Slices
import Derived.WalkKit
import Derived.KernelRfl
import Derived.RowKit3
import Derived.Deep.LoopGhost
import Derived.Deep.QuietTactic
import Derived.BigQuiet
import Derived.WideLaws
import Derived.Deep.DeepCutAuto
import Derived.Deep.CutBlock
import Derived.Deep.RegionHeld3
import Derived.Laws.Rows
import Derived.Lib.AppendStr
import Derived.ArgAppend
import Derived.Laws.IdiomCopy
import Derived.OrdersHeld
import Derived.Laws.BitsLemmas
import Derived.RowKit
import Derived.Test.YtlnhiogpjdhhbaaWWords
import Derived.Test.YtlnhiogpjdhhbaaWLast
import Derived.Test.YtlnhiogpjdhhbaaWTab
import Derived.Test.YtlnhiogpjdhhbaaWApart
import Derived.Test.YtlnhiogpjdhhbaaWFoot
import Derived.Test.YtlnhiogpjdhhbaaWShare
import Derived.Test.YtlnhiogpjdhhbaaWN
import Derived.Laws.StructEq
import Derived.Test.YtlnhiogpjdhhbaaWRepsOne
import Derived.Test.YtlnhiogpjdhhbaaWInv
import Derived.Test.YtlnhiogpjdhhbaaWGuard
import Derived.Test.YtlnhiogpjdhhbaaWNEv
import Derived.Test.YtlnhiogpjdhhbaaWMore
-- Written by wip/xp.
namespace Go.Proofs.Ytlnhiogpjdhhbaa.P
open Go.RowKit Go.Proofs.YtlnhiogpjdhhbaaW.PrintWords Go.Proofs.YtlnhiogpjdhhbaaW.PrintLast Go.Proofs.YtlnhiogpjdhhbaaW.PrintMore
attribute [local go_sem] max2_int min2_int max_two min_two max_three min_three max_four min_four   -- for this text's walks alone
set_option linter.unusedVariables false
set_option linter.unusedSimpArgs false



def errW : Option Int → Value
  | none => .nilIface
  | some c => .iface 0 (.int .i64 c)
theorem errW_none : errW none = .nilIface := rfl
theorem errW_some (c : Int) : errW (some c) = .iface 0 (.int .i64 c) := rfl

theorem info3 : (Try.prog.info? 3).map (fun i => (i.zero, i.size, i.bytes)) = some (some (.int .i64 0), 1, 8) := by kernel_rfl
theorem info27 : (Try.prog.info? 27).map (fun i => (i.zero, i.size, i.bytes)) = some (some (.agg #[(.int .i64 0), (.int .u64 0), (.int .u64 0), (.int .u64 0), (.int .u64 0), (.slice none 0 0), (.int .i64 0), (.int .i64 0)]), 8, 80) := by kernel_rfl
theorem info42 : (Try.prog.info? 42).map (fun i => (i.zero, i.size, i.bytes)) = some (some (.slice none 0 0), 1, 24) := by kernel_rfl
-- the values' own types
structure S24 where
  f0 : Int
  f1 : Int
  f2 : Int
  f3 : Int
def z24 : S24 := ⟨(0 : Int), (0 : Int), (0 : Int), (0 : Int)⟩
def k24 : Kd S24 := Kd.iso (Kd.pair (Kd.int .u64) (Kd.pair (Kd.int .u64) (Kd.pair (Kd.int .u64) (Kd.int .u64)))) (fun x : S24 => (x.f0, x.f1, x.f2, x.f3))
theorem k24_heap : Kd.Heap k24 := Kd.heap_iso _ (Kd.heap_pair (Kd.heap_int .u64) (Kd.heap_pair (Kd.heap_int .u64) (Kd.heap_pair (Kd.heap_int .u64) (Kd.heap_int .u64))))
theorem k24_open {w : World} {x : S24} {cs : List Value} (h : k24.K w x cs) : cs = [.int .u64 x.f0, .int .u64 x.f1, .int .u64 x.f2, .int .u64 x.f3] := by
  obtain ⟨_, _, rfl, rfl, ⟨_, _, rfl, rfl, ⟨_, _, rfl, rfl, rfl⟩⟩⟩ := h
  exact rfl
theorem k24_mk (w : World) (x : S24)  : k24.K w x [.int .u64 x.f0, .int .u64 x.f1, .int .u64 x.f2, .int .u64 x.f3] := ⟨[.int .u64 x.f0], [.int .u64 x.f1, .int .u64 x.f2, .int .u64 x.f3], rfl, rfl, ⟨[.int .u64 x.f1], [.int .u64 x.f2, .int .u64 x.f3], rfl, rfl, ⟨[.int .u64 x.f2], [.int .u64 x.f3], rfl, rfl, rfl⟩⟩⟩
structure S27 where
  f0 : Int
  f1 : S24
  f2 : (List S27)
  f3 : Int
  f4 : Int
def z27 : S27 := ⟨(0 : Int), z24, ([] : List S27), (0 : Int), (0 : Int)⟩
def F27 (d : Kd S27) : Kd S27 := Kd.iso (Kd.pair (Kd.int .i64) (Kd.pair k24 (Kd.pair (Kd.slice 27 d) (Kd.pair (Kd.int .i64) (Kd.int .i64))))) (fun x : S27 => (x.f0, x.f1, x.f2, x.f3, x.f4))
theorem mono27 : Kd.Mono F27 := Kd.mono_iso _ (Kd.mono_pair (Kd.mono_const _) (Kd.mono_pair (Kd.mono_const _) (Kd.mono_pair (Kd.mono_slice 27 Kd.mono_id) (Kd.mono_pair (Kd.mono_const _) (Kd.mono_const _)))))
theorem sub27 : Kd.Sub F27 [27] := Kd.sub_iso _ (Kd.sub_pair (Kd.sub_const _ (by decide)) (Kd.sub_pair (Kd.sub_const _ (by decide)) (Kd.sub_pair (Kd.sub_slice 27 (by decide) Kd.sub_id) (Kd.sub_pair (Kd.sub_const _ (by decide)) (Kd.sub_const _ (by decide))))))
theorem sz27 : ∀ n, (Kd.upto F27 8 [27] n).sz = 8 := Kd.upto_sz (fun _ => rfl)
def k27 : Kd S27 := Kd.fix F27 8 [27] sz27 (Kd.upto_E sub27)
theorem k27_heap : Kd.Heap k27 := Kd.heap_fix (fun _ h_ => Kd.heap_iso _ (Kd.heap_pair (Kd.heap_int .i64) (Kd.heap_pair k24_heap (Kd.heap_pair (Kd.heap_slice 27 h_) (Kd.heap_pair (Kd.heap_int .i64) (Kd.heap_int .i64))))))
theorem k27_open {w : World} {x : S27} {cs : List Value} (h : k27.K w x cs) : ∃ A5 c5, cs = [.int .i64 x.f0, .int .u64 x.f1.f0, .int .u64 x.f1.f1, .int .u64 x.f1.f2, .int .u64 x.f1.f3, .slice A5 x.f2.length c5, .int .i64 x.f3, .int .i64 x.f4] ∧ x.f2.length ≤ c5 ∧ k27.C w A5 x.f2.length x.f2 := by
  obtain ⟨n, h⟩ := h
  cases n with
  | zero => exact h.elim
  | succ n =>
    obtain ⟨_, _, rfl, rfl, ⟨_, _, rfl, s1, ⟨_, _, rfl, ⟨A5, c5, rfl, l5, g5⟩, ⟨_, _, rfl, rfl, rfl⟩⟩⟩⟩ := h
    obtain rfl := k24_open s1
    exact ⟨A5, c5, rfl, l5, Kd.fix_C g5⟩
theorem k27_mk (w : World) (x : S27) {A5 : Option Addr} {c5 : Nat} (l5 : x.f2.length ≤ c5) (g5 : k27.C w A5 x.f2.length x.f2) : k27.K w x [.int .i64 x.f0, .int .u64 x.f1.f0, .int .u64 x.f1.f1, .int .u64 x.f1.f2, .int .u64 x.f1.f3, .slice A5 x.f2.length c5, .int .i64 x.f3, .int .i64 x.f4] := by
  obtain ⟨n5, q5⟩ := Kd.fix_C_back mono27 g5
  have r5 := Kd.upto_C_le mono27 sz27 (show n5 ≤ n5 by omega) q5
  exact ⟨n5 + 1, ⟨[.int .i64 x.f0], [.int .u64 x.f1.f0, .int .u64 x.f1.f1, .int .u64 x.f1.f2, .int .u64 x.f1.f3, .slice A5 x.f2.length c5, .int .i64 x.f3, .int .i64 x.f4], rfl, rfl, ⟨[.int .u64 x.f1.f0, .int .u64 x.f1.f1, .int .u64 x.f1.f2, .int .u64 x.f1.f3], [.slice A5 x.f2.length c5, .int .i64 x.f3, .int .i64 x.f4], rfl, (k24_mk w x.f1 ), ⟨[.slice A5 x.f2.length c5], [.int .i64 x.f3, .int .i64 x.f4], rfl, ⟨A5, c5, rfl, l5, r5⟩, ⟨[.int .i64 x.f3], [.int .i64 x.f4], rfl, rfl, rfl⟩⟩⟩⟩⟩
theorem k27_openF {W : World} {ok : Nat → Prop} {x : S27} {cs : List Value} (h : Kd.FK k27 W ok x cs) : ∃ A5 c5, cs = [.int .i64 x.f0, .int .u64 x.f1.f0, .int .u64 x.f1.f1, .int .u64 x.f1.f2, .int .u64 x.f1.f3, .slice A5 x.f2.length c5, .int .i64 x.f3, .int .i64 x.f4] ∧ x.f2.length ≤ c5 ∧ Kd.F k27 W ok A5 x.f2.length x.f2 := by
  obtain ⟨A5, c5, rfl, l5, _⟩ := k27_open (Kd.FK_now h)
  exact ⟨A5, c5, rfl, l5, (fun W' hW => by obtain ⟨A5_, c5_, he, l5_, g5_⟩ := k27_open (h W' hW); injection (Option.some.inj (show some (Value.slice A5 x.f2.length c5) = some (Value.slice A5_ x.f2.length c5_) from congrArg (fun l => l[5]?) he)) with ha_ _ _; rw [ha_]; exact g5_)⟩
theorem k27_mkF (W : World) (ok : Nat → Prop) (x : S27) {A5 : Option Addr} {c5 : Nat} (l5 : x.f2.length ≤ c5) (g5 : Kd.F k27 W ok A5 x.f2.length x.f2) : Kd.FK k27 W ok x [.int .i64 x.f0, .int .u64 x.f1.f0, .int .u64 x.f1.f1, .int .u64 x.f1.f2, .int .u64 x.f1.f3, .slice A5 x.f2.length c5, .int .i64 x.f3, .int .i64 x.f4] := fun W2 hW => k27_mk W2 x l5 (g5 W2 hW)
def rd_T27 (xs : List S27) (i : Int) : S27 := xs.getD i.toNat z27
theorem at_T27 {w : World} {A : Option Addr} {n : Nat} {xs : List S27} (h : Kd.C k27 w A n xs) (i : Int) (h0 : 0 ≤ i) (h1 : i < n) : ∃ ad A5 c5, A = some ad ∧ w.cell? (ad.add (i.toNat * 8)) = some (.int .i64 (rd_T27 xs i).f0) ∧ w.cell? ⟨(ad.add (i.toNat * 8)).block, (ad.add (i.toNat * 8)).off + 1, none⟩ = some (.int .u64 (rd_T27 xs i).f1.f0) ∧ w.cell? ⟨(ad.add (i.toNat * 8)).block, (ad.add (i.toNat * 8)).off + 2, none⟩ = some (.int .u64 (rd_T27 xs i).f1.f1) ∧ w.cell? ⟨(ad.add (i.toNat * 8)).block, (ad.add (i.toNat * 8)).off + 3, none⟩ = some (.int .u64 (rd_T27 xs i).f1.f2) ∧ w.cell? ⟨(ad.add (i.toNat * 8)).block, (ad.add (i.toNat * 8)).off + 4, none⟩ = some (.int .u64 (rd_T27 xs i).f1.f3) ∧ w.cell? ⟨(ad.add (i.toNat * 8)).block, (ad.add (i.toNat * 8)).off + 5, none⟩ = some (.slice A5 (rd_T27 xs i).f2.length c5) ∧ w.cell? ⟨(ad.add (i.toNat * 8)).block, (ad.add (i.toNat * 8)).off + 6, none⟩ = some (.int .i64 (rd_T27 xs i).f3) ∧ w.cell? ⟨(ad.add (i.toNat * 8)).block, (ad.add (i.toNat * 8)).off + 7, none⟩ = some (.int .i64 (rd_T27 xs i).f4) ∧ (rd_T27 xs i).f2.length ≤ c5 ∧ k27.C w A5 (rd_T27 xs i).f2.length (rd_T27 xs i).f2 := by
  obtain ⟨ad, c, e, _, hK, hc0⟩ := Kd.C_get h z27 i h0 h1
  have hc : ∀ j u, c[j]? = some u → w.cell? (ad.add (i.toNat * 8 + j)) = some u := hc0
  obtain ⟨A5, c5, rfl, l5, g5⟩ := k27_open hK
  exact ⟨ad, A5, c5, e, hc 0 _ rfl, by rw [← add_field _ _ 1 (by omega)]; exact hc 1 _ rfl, by rw [← add_field _ _ 2 (by omega)]; exact hc 2 _ rfl, by rw [← add_field _ _ 3 (by omega)]; exact hc 3 _ rfl, by rw [← add_field _ _ 4 (by omega)]; exact hc 4 _ rfl, by rw [← add_field _ _ 5 (by omega)]; exact hc 5 _ rfl, by rw [← add_field _ _ 6 (by omega)]; exact hc 6 _ rfl, by rw [← add_field _ _ 7 (by omega)]; exact hc 7 _ rfl, l5, g5⟩

end Go.Proofs.Ytlnhiogpjdhhbaa.P
