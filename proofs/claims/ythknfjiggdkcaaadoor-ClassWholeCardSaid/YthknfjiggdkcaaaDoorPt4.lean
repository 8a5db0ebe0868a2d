/- Keys of the map in split. -/
import Derived.Test.YthknfjiggdkcaaaDoorPt3
import Derived.Maps.Own
import Derived.Maps.Views
import Derived.DeepKeys4
namespace Go.Proofs.YthknfjiggdkcaaaDoor
open Go.RowKit Go.Maps
set_option linter.unusedVariables false
set_option linter.unusedSimpArgs false

theorem laidOut4 : laidOutB Tryd.prog = true := by kernel_rfl
theorem wfu {m : Int} (h : 0 ≤ m ∧ m < U64) : (Lit.int .u64 m).wf = true := by
  unfold U64 at h
  simp [Lit.wf, IntKind.min, IntKind.max, IntKind.signed, IntKind.bits]
  omega
theorem kl_u64 (d : Nat) {m : Int} (h : 0 ≤ m ∧ m < U64) : Tryd.prog.keyLits (d + 1) 22 [.int .u64 m] = some [.int .u64 m] := by
  simp only [Program.keyLits, Tryd.underlying22]
  rw [if_pos ⟨trivial, wfu h⟩]
theorem kl_int (d : Nat) : Tryd.prog.keyLits (d + 1) 3 [.int .i64 0] = some [.int .i64 0] := by
  simp only [Program.keyLits, Tryd.underlying3]
  rfl
theorem kl_mark (d : Nat) {m0 m1 m2 m3 : Int} (h0 : 0 ≤ m0 ∧ m0 < U64) (h1 : 0 ≤ m1 ∧ m1 < U64) (h2 : 0 ≤ m2 ∧ m2 < U64) (h3 : 0 ≤ m3 ∧ m3 < U64) :
    ∃ ls, Tryd.prog.keyLits (d + 2) 51 [.int .u64 m0, .int .u64 m1, .int .u64 m2, .int .u64 m3] = some ls := by
  have e1 : Tryd.prog.cellsOf 51 = 4 := by kernel_rfl
  have e2 : Tryd.prog.cellsOf 22 = 1 := by kernel_rfl
  rw [Program.keyLits.eq_def]
  dsimp only
  rw [Tryd.underlying51]
  dsimp only
  rw [if_pos (by rw [e1]; rfl), e2]
  exact ⟨_, by simp [List.range, List.range.loop, kl_u64 d h0, kl_u64 d h1, kl_u64 d h2, kl_u64 d h3]; rfl⟩
theorem keyOf_any (m0 m1 m2 m3 : Int) (h0 : 0 ≤ m0 ∧ m0 < U64) (h1 : 0 ≤ m1 ∧ m1 < U64) (h2 : 0 ≤ m2 ∧ m2 < U64) (h3 : 0 ≤ m3 ∧ m3 < U64) :
    ∃ s, keyOf Tryd.prog 54 (.agg #[.int .i64 0, .int .u64 m0, .int .u64 m1, .int .u64 m2, .int .u64 m3]) = some (.string s) := by
  have hk : Tryd.prog.keyType 54 = true := by kernel_rfl
  have hf : Value.formed Tryd.prog 54 (.agg #[.int .i64 0, .int .u64 m0, .int .u64 m1, .int .u64 m2, .int .u64 m3]) = true := by kernel_rfl
  have hd : ∃ d, Tryd.prog.types.size + 1 = d + 3 := ⟨Tryd.prog.types.size - 2, by have : 2 ≤ Tryd.prog.types.size := of_decide_eq_true (by kernel_rfl); omega⟩
  obtain ⟨d, hd⟩ := hd
  obtain ⟨ls, hls⟩ := kl_mark d h0 h1 h2 h3
  have e0 : Tryd.prog.cellsOf 54 = 5 := by kernel_rfl
  have e1 : Tryd.prog.cellsOf 51 = 4 := by kernel_rfl
  have e2 : Tryd.prog.cellsOf 3 = 1 := by kernel_rfl
  have hL : ∃ l5, Tryd.prog.keyLits (d + 3) 54 [.int .i64 0, .int .u64 m0, .int .u64 m1, .int .u64 m2, .int .u64 m3] = some l5 := by
    rw [Program.keyLits.eq_def]
    dsimp only
    rw [Tryd.underlying54]
    dsimp only
    rw [if_pos (by rw [e0]; exact ⟨rfl, by decide +kernel⟩)]
    exact ⟨_, by simp [e1, e2, kl_int (d + 1), hls]; rfl⟩
  obtain ⟨l5, hL⟩ := hL
  refine ⟨keyBytes l5, ?_⟩
  unfold keyOf
  rw [Tryd.underlying54]
  simp only [hk, hf, Bool.and_true, if_true]
  rw [hd]
  show Option.map _ (Tryd.prog.keyLits (d + 3) 54 [.int .i64 0, .int .u64 m0, .int .u64 m1, .int .u64 m2, .int .u64 m3]) = _
  rw [hL]
  rfl
theorem keyLaw : Keyed Tryd.prog 54 := Keyed.of_law (deep_law_laid laidOut4 (m := Tryd.prog.types.size + 1) (of_decide_eq_true (by kernel_rfl)) (of_decide_eq_true (by kernel_rfl)) (by kernel_rfl) (by kernel_rfl))
theorem zeroI (w : World) : (zeroValue 3).run Tryd.prog w = .ok (.int .i64 0) w := by kernel_rfl
theorem under50 : Tryd.prog.underlying 50 = some (.map 54 3) := Tryd.underlying50
/-- 'v, ok := m[k]'. -/
theorem look_ok {H : Type} {w : World} {b n : Nat} {D : DataW H} (h : w.ownsMap Tryd.prog 54 (plainElem Tryd.prog 3) b n D) {key : Value} {kl : Lit} (hkey : keyOf Tryd.prog 54 key = some kl) :
    ((Instr.lookup 50 (.map (some b)) key true).run Tryd.prog w = .ok (.tuple #[.int .i64 0, .bool false]) w ∧ ∀ zd, D.atKey kl zd = zd) ∨
    ∃ c : Int, (Instr.lookup 50 (.map (some b)) key true).run Tryd.prog w = .ok (.tuple #[.int .i64 c, .bool true]) w ∧ ∀ zd, D.atKey kl zd = .lit (.int .i64 c) := by
  obtain ⟨es, clock, hb, F, _, rfl⟩ := h
  rcases Maps.fit_look true keyLaw under50 (zeroI w) hb F hkey with ⟨hrun, _, hat⟩ | ⟨e0, y, _, _, hrun, hR, hat, _⟩
  · exact .inl ⟨hrun, hat⟩
  · obtain ⟨c, hv, rfl, _⟩ := plainElem_int_inv Tryd.underlying3 hR
    rw [hv] at hrun
    exact .inr ⟨c, hrun, hat⟩
end Go.Proofs.YthknfjiggdkcaaaDoor
