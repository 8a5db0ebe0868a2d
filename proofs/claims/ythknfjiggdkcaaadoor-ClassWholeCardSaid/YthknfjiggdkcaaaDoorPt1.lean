/- Classes in memory; which of them have a byte; the walk of Together. -/
import Derived.Test.YthknfjiggdkcaaaDoorCl2
import Derived.Test.YthknfjiggdkcaaaDoorRinv
import Derived.Deep.DeepCutAuto
import Derived.Lib.QuietBelow
namespace Go.Proofs.YthknfjiggdkcaaaDoor
open Go.RowKit
set_option linter.unusedVariables false
set_option linter.unusedSimpArgs false

abbrev Cw := Nat → Int
/-- The j-th class. -/
def clAt (l : List Cw) (j : Nat) : Cw := l.getD j (fun _ => 0)
/-- The slice of classes of address A. -/
structure Cs (w : World) (A : Option Addr) (c : Nat) (l : List Cw) : Prop where
  cap : l.length ≤ c
  max : c ≤ 9223372036854775807
  nil : A = none → c = 0
  cell : ∀ ad, A = some ad → ∀ j, j < l.length → w.cell? (ad.add (j * 4)) = some (.int .u64 (clAt l j 0)) ∧ w.cell? ⟨(ad.add (j * 4)).block, (ad.add (j * 4)).off + 1, none⟩ = some (.int .u64 (clAt l j 1)) ∧
    w.cell? ⟨(ad.add (j * 4)).block, (ad.add (j * 4)).off + 2, none⟩ = some (.int .u64 (clAt l j 2)) ∧ w.cell? ⟨(ad.add (j * 4)).block, (ad.add (j * 4)).off + 3, none⟩ = some (.int .u64 (clAt l j 3))
namespace Cs
variable {w w' : World} {A : Option Addr} {c : Nat} {l : List Cw}
theorem below (h : Cs w A c l) (hb : Below w.heap.size w w') : Cs w' A c l :=
  ⟨h.cap, h.max, h.nil, fun ad e j hj => by
    obtain ⟨a, b, d, f⟩ := h.cell ad e j hj
    exact ⟨(hb.cell (World.block_lt_of_cell? w _ a)).trans a, (hb.cell (World.block_lt_of_cell? w _ b)).trans b, (hb.cell (World.block_lt_of_cell? w _ d)).trans d, (hb.cell (World.block_lt_of_cell? w _ f)).trans f⟩⟩
theorem at_ (h : Cs w A c l) {j : Nat} (hj : j < l.length) : ∃ ad, A = some ad ∧ w.cell? (ad.add (j * 4)) = some (.int .u64 (clAt l j 0)) ∧ w.cell? ⟨(ad.add (j * 4)).block, (ad.add (j * 4)).off + 1, none⟩ = some (.int .u64 (clAt l j 1)) ∧
    w.cell? ⟨(ad.add (j * 4)).block, (ad.add (j * 4)).off + 2, none⟩ = some (.int .u64 (clAt l j 2)) ∧ w.cell? ⟨(ad.add (j * 4)).block, (ad.add (j * 4)).off + 3, none⟩ = some (.int .u64 (clAt l j 3)) := by
  cases A with
  | none => have := h.nil rfl; have := h.cap; omega
  | some ad => exact ⟨ad, rfl, h.cell ad rfl j hj⟩
end Cs
def AllW (l : List Cw) : Prop := ∀ j, j < l.length → W64 (clAt l j)
/-- Which of the classes have a byte. -/
def key (l : List Cw) (b : Nat) : List Bool := l.map fun x => hasB x b
theorem key_eq {l : List Cw} {a b : Nat} : key l a = key l b ↔ ∀ j, j < l.length → hasB (clAt l j) a = hasB (clAt l j) b := by
  constructor
  · intro h j hj
    have := congrArg (fun m => m[j]?) h
    simpa [key, clAt, List.getD, hj] using this
  · intro h
    unfold key
    apply List.ext_getElem (by simp)
    intro j h1 h2
    have hj : j < l.length := by simpa using h1
    have := h j hj
    simpa [clAt, List.getD, List.getElem?_eq_getElem hj] using this
open Classical in
noncomputable def togB (l : List Cw) (a b : Nat) : Bool := decide (key l a = key l b)
open Classical in
theorem togB_yes {l : List Cw} {a b : Nat} (h : key l a = key l b) : togB l a b = true := decide_eq_true h
open Classical in
theorem togB_no {l : List Cw} {a b : Nat} (h : ¬ key l a = key l b) : togB l a b = false := decide_eq_false h

set_option maxHeartbeats 2000000 in
theorem together_any (l : List Cw) (hl : AllW l) (a b : Nat) (ha : a < 256) (hb : b < 256) (A : Option Addr) (c : Nat) (w : World) (hs : Cs w A c l) :
    Calls Tryd.prog 23 #[.slice A l.length c, .int .i64 a, .int .i64 b] w fun e w' => e = .returned (.bool (togB l a b)) ∧ Below w.heap.size w w' := by
  have hcap := hs.cap
  have hmax := hs.max
  go_enter Tryd.func23, Tryd.ntmps23
  go_wp2
  go_loopw [7] (fun i wr => ∃ k : Nat, k ≤ l.length ∧ i = .int .i64 k ∧ Hid (∀ j, j < k → hasB (clAt l j) a = hasB (clAt l j) b) ∧ Below w.heap.size w wr) (fun i _ => l.length - (intOf i).toNat)
  case atStart => exact ⟨0, by omega, rfl, fun j hj => by omega, Below.refl _ _⟩
  case round =>
    obtain ⟨k, hk, rfl, hall, hbw⟩ := hrel
    by_cases hlt : k < l.length
    · have hlz : (k : Int) < (l.length : Int) := by omega
      obtain ⟨ad, rfl, a0, a1, a2, a3⟩ := (hs.below hbw).at_ hlt
      have hx := hl k hlt
      obtain ⟨x, hxe⟩ : ∃ x, x = clAt l k := ⟨_, rfl⟩
      rw [← hxe] at a0 a1 a2 a3 hx
      have qa := fun d os => Calls.regrown_of (rhas_any x hx (a : Int) (by omega) (by omega) (Go.Sort.grow (redrawn wr d) os))
      have qb := fun d os => Calls.regrown_of (rhas_any x hx (b : Int) (by omega) (by omega) (Go.Sort.grow (redrawn wr d) os))
      have ka0 := cell_regrown a0
      have ka1 := cell_regrown a1
      have ka2 := cell_regrown a2
      have ka3 := cell_regrown a3
      have h6' := fun d os => ext_trans hbw (below_regrown wr d os)
      rw [Int.toNat_natCast] at qa qb
      have HXE := Lib.hid hxe
      clear hxe a0 a1 a2 a3
      obtain ⟨p, hp⟩ : ∃ p, p = hasB x a := ⟨_, rfl⟩
      obtain ⟨q, hq⟩ : ∃ q, q = hasB x b := ⟨_, rfl⟩
      rw [← hp] at qa
      rw [← hq] at qb
      have HP := Lib.hid hp
      have HQ := Lib.hid hq
      clear hp hq
      by_cases hpq : p = q
      · subst hpq
        have d2 : (p == p) = true := by simp
        have HA2 : Hid (∀ j, j < k + 1 → hasB (clAt l j) a = hasB (clAt l j) b) := fun j hj => by
          by_cases e : j = k
          · subst e
            rw [← HXE.out, ← HP.out, ← HQ.out]
          · exact hall.out j (by omega)
        go_wp2_with fail
        refine wp_region_quiet_below (by kernel_rfl) (by kernel_rfl) ?_
        repeat (quiet_step (fail))
        quiet_step (exact qa _ _)
        repeat (quiet_step (fail))
        quiet_step (exact qb _ _)
        repeat (quiet_step (fail))
        refine wpQuiet_nil ?_
        intro _ hw'
        obtain ⟨⟨dq, osq⟩, hw''⟩ := hw'
        subst hw''
        have h7 := h6' dq osq
        clear h6' ka0 ka1 ka2 ka3 qa qb
        dsimp only at *
        generalize Go.Sort.grow (redrawn wr dq) osq = w7 at *
        go_wp2
        go_roundw
        case rel => exact ⟨k + 1, by omega, by go_num, HA2.out, h7⟩
        case measure => simp [intOf]; omega
      · have hno : togB l a b = false := togB_no fun h => hpq (by rw [HP.out, HQ.out, HXE.out]; exact key_eq.1 h k hlt)
        have HNO := Lib.hid hno
        clear hno
        cases p <;> cases q
        · exact absurd rfl hpq
        · clear hpq
          go_wp2_with fail
          refine wp_region_quiet_below (by kernel_rfl) (by kernel_rfl) ?_
          repeat (quiet_step (fail))
          quiet_step (exact qa _ _)
          repeat (quiet_step (fail))
          quiet_step (exact qb _ _)
          repeat (quiet_step (fail))
          refine wpQuiet_nil ?_
          intro _ hw'
          obtain ⟨⟨dq, osq⟩, hw''⟩ := hw'
          subst hw''
          have h7 := h6' dq osq
          clear h6' ka0 ka1 ka2 ka3 qa qb
          dsimp only at *
          generalize Go.Sort.grow (redrawn wr dq) osq = w7 at *
          go_wp2
          go_ret
          exact ⟨by rw [HNO.out]; rfl, h7⟩
        · clear hpq
          go_wp2_with fail
          refine wp_region_quiet_below (by kernel_rfl) (by kernel_rfl) ?_
          repeat (quiet_step (fail))
          quiet_step (exact qa _ _)
          repeat (quiet_step (fail))
          quiet_step (exact qb _ _)
          repeat (quiet_step (fail))
          refine wpQuiet_nil ?_
          intro _ hw'
          obtain ⟨⟨dq, osq⟩, hw''⟩ := hw'
          subst hw''
          have h7 := h6' dq osq
          clear h6' ka0 ka1 ka2 ka3 qa qb
          dsimp only at *
          generalize Go.Sort.grow (redrawn wr dq) osq = w7 at *
          go_wp2
          go_ret
          exact ⟨by rw [HNO.out]; rfl, h7⟩
        · exact absurd rfl hpq
    · obtain rfl : k = l.length := by omega
      have hlz : ¬ (l.length : Int) < (l.length : Int) := by omega
      have hyes : togB l a b = true := togB_yes (key_eq.2 hall.out)
      have HY := Lib.hid hyes
      clear hyes
      go_wp2
      go_ret
      exact ⟨by rw [HY.out]; rfl, hbw⟩
end Go.Proofs.YthknfjiggdkcaaaDoor
