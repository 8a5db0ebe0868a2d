/- What split keeps: the map, the parts so far. -/
import Derived.Test.YthknfjiggdkcaaaDoorPt5
namespace Go.Proofs.YthknfjiggdkcaaaDoor
open Go.RowKit Go.Maps
set_option linter.unusedVariables false
set_option linter.unusedSimpArgs false

theorem hasAt_key {l : List Cw} {a b : Nat} : hasAt l a = hasAt l b ↔ key l a = key l b := by
  rw [key_eq]
  constructor
  · intro h j hj
    have := congrFun h j
    simpa [hasAt, hj] using this
  · intro h
    funext j
    unfold hasAt
    by_cases hj : j < l.length
    · rw [h j hj]
    · simp [hj]
/-- The map's key at a byte. -/
noncomputable def KV (l : List Cw) (b : Nat) : Value := .agg #[.int .i64 0, .int .u64 (clsOf (hasAt l b) 0), .int .u64 (clsOf (hasAt l b) 1), .int .u64 (clsOf (hasAt l b) 2), .int .u64 (clsOf (hasAt l b) 3)]
theorem KV_inj {l : List Cw} (hn : l.length ≤ 256) {a b : Nat} (h : KV l a = KV l b) : key l a = key l b := by
  unfold KV at h
  simp only [Value.agg.injEq, Array.mk.injEq, List.cons.injEq, Value.int.injEq, true_and, and_true] at h
  obtain ⟨e0, e1, e2, e3⟩ := h
  have hw : ∀ j, j < 4 → clsOf (hasAt l a) j = clsOf (hasAt l b) j := fun j hj => by
    match j, hj with
    | 0, _ => exact e0
    | 1, _ => exact e1
    | 2, _ => exact e2
    | 3, _ => exact e3
  apply hasAt_key.1
  funext q
  by_cases hq : q < 256
  · rw [← has_clsOf (hasAt l a) q, ← has_clsOf (hasAt l b) q]
    unfold hasB
    rw [hw (q / 64) (by omega)]
  · unfold hasAt
    rw [decide_eq_false (by omega), Bool.false_and, Bool.false_and]
theorem KV_of {l : List Cw} {a b : Nat} (h : key l a = key l b) : KV l a = KV l b := by
  unfold KV
  rw [hasAt_key.2 h]
theorem ks_ex (l : List Cw) (b : Nat) : ∃ s, keyOf Tryd.prog 54 (KV l b) = some (.string s) :=
  keyOf_any _ _ _ _ (w64_clsOf _ 0 (by omega)) (w64_clsOf _ 1 (by omega)) (w64_clsOf _ 2 (by omega)) (w64_clsOf _ 3 (by omega))
noncomputable def ks (l : List Cw) (b : Nat) : Lit := .string (ks_ex l b).choose
theorem ks_of (l : List Cw) (b : Nat) : keyOf Tryd.prog 54 (KV l b) = some (ks l b) := (ks_ex l b).choose_spec
theorem ks_eq {l : List Cw} (hn : l.length ≤ 256) {a b : Nat} : ks l a = ks l b ↔ key l a = key l b := by
  constructor
  · intro h
    have h1 := ks_of l a
    rw [h] at h1
    exact KV_inj hn (keyLaw.inj h1 (ks_of l b))
  · intro h
    have h1 := ks_of l a
    rw [KV_of h, ks_of l b] at h1
    exact (Option.some.inj h1).symm
/-- The map, once the bytes before b are dealt with. -/
def MapI (l : List Cw) (w : World) (B b : Nat) : Prop :=
  ∃ (D : DataW Unit) (n : Nat), w.ownsMap Tryd.prog 54 (plainElem Tryd.prog 3) B n D ∧ n ≤ b ∧ IsMap D ∧ ∀ q : Nat, D.atKey (ks l q) .nil = if dn l b q then .lit (.int .i64 (idx l b q : Nat)) else .nil
/-- The parts, of the bytes before b. -/
def OutS (l : List Cw) (w : World) (base : Nat) (v : Value) (b : Nat) : Prop :=
  ∃ xs : List Cw, xs.length = (firsts l b).length ∧ AllW xs ∧ (∀ i, i < xs.length → ∀ q : Nat, q < 256 → hasB (clAt xs i) q = (decide (q < b) && decide (idx l b q = i))) ∧ w.ownsRow base 24 4 v xs.length (ccells xs)
theorem MapI.zero (l : List Cw) (w : World) : MapI l (w.alloc (.map #[] 0)) w.heap.size 0 :=
  ⟨.map [], 0, World.ownsMap_made _ _ _ _, Nat.le_refl _, ⟨[], rfl⟩, fun q => by rw [dn_zero]; rfl⟩
theorem MapI.kept {l : List Cw} {w w' : World} {B b : Nat} {row : Option Nat} (h : MapI l w B b) (hg : w.grownBy w' row) (hne : some B ≠ row) : MapI l w' B b := by
  obtain ⟨D, n, h1, h2⟩ := h
  exact ⟨D, n, h1.kept hg hne, h2⟩
theorem MapI.old {l : List Cw} {w : World} {B b : Nat} (h : MapI l w B b) (hd : dn l b b = true) : MapI l w B (b + 1) := by
  obtain ⟨D, n, h1, h2, h3, h4⟩ := h
  refine ⟨D, n, h1, by omega, h3, fun q => ?_⟩
  rw [h4 q, dn_old hd]
  by_cases hq : dn l b q = true
  · rw [if_pos hq, if_pos hq, idx, if_pos hq]
  · rw [if_neg hq, if_neg hq]
theorem MapI.look {l : List Cw} {w : World} {B b : Nat} (h : MapI l w B b) (q : Nat) :
    (Instr.lookup 50 (.map (some B)) (KV l q) true).run Tryd.prog w = .ok (if dn l b q then .tuple #[.int .i64 (idx l b q : Nat), .bool true] else .tuple #[.int .i64 0, .bool false]) w := by
  obtain ⟨D, n, h1, h2, h3, h4⟩ := h
  have hq := h4 q
  rcases look_ok h1 (ks_of l q) with ⟨hr, ha⟩ | ⟨c, hr, ha⟩
  · rw [ha] at hq
    by_cases hd : dn l b q = true
    · rw [if_pos hd] at hq; cases hq
    · rw [if_neg hd]; exact hr
  · rw [ha] at hq
    by_cases hd : dn l b q = true
    · rw [if_pos hd] at hq
      rw [if_pos hd, hr]
      injection hq with hq
      injection hq with _ hq
      rw [hq]
    · rw [if_neg hd] at hq; cases hq
theorem MapI.put {l : List Cw} (hn : l.length ≤ 256) {w : World} {B b : Nat} (h : MapI l w B b) (hd : dn l b b = false) (hb : b < 256) :
    ∃ w', (Instr.mapUpdate 50 (.map (some B)) (KV l b) (.int .i64 ((firsts l b).length : Nat))).run Tryd.prog w = .ok () w' ∧ MapI l w' B (b + 1) ∧ w.grownBy w' (some B) := by
  obtain ⟨D, n, h1, h2, h3, h4⟩ := h
  have hl := firsts_len l b
  obtain ⟨w', hr, ho, hg⟩ := h1.update keyLaw under50 (by unfold maxLen; omega) (ks_of l b) (plainElem_int (H := Unit) Tryd.underlying3 (a := ((firsts l b).length : Nat)) (by simp [Lit.wf, IntKind.min, IntKind.max, IntKind.signed, IntKind.bits]; omega))
  refine ⟨w', hr, ⟨_, n + 1, ho, by omega, ?_, fun q => ?_⟩, hg⟩
  · obtain ⟨es, rfl⟩ := h3
    exact ⟨_, rfl⟩
  · by_cases hk : key l b = key l q
    · have e : ks l q = ks l b := ((ks_eq hn).2 hk).symm
      have hq : dn l b q = false := by rw [← dn_congr hk]; exact hd
      rw [e, atKey_put_same h3 (by unfold ks; trivial), dn_succ, hq, togB_yes hk, idx, hq]
      rfl
    · have e : ks l q ≠ ks l b := fun h => hk ((ks_eq hn).1 h.symm)
      rw [atKey_put_other e, h4 q, dn_succ, togB_no hk, Bool.or_false]
      by_cases hq : dn l b q = true
      · rw [if_pos hq, if_pos hq, idx, if_pos hq]
      · rw [if_neg hq, if_neg hq]
end Go.Proofs.YthknfjiggdkcaaaDoor
