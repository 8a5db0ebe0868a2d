/- A word put behind others, whole; how many bytes runs have; the first question answered. -/
import Derived.Test.YtbdgfbkhplhpkaaDoorRunR2
import Derived.Test.YtbdgfbkhplhpkaaDoorAw12
namespace Go.Proofs.YtbdgfbkhplhpkaaDoor
open Go.RowKit
set_option linter.unusedVariables false
set_option linter.unusedSimpArgs false
attribute [local go_sem ↓] appS

theorem rcells_one (rs : List Rn) : ∀ u ∈ rcells rs, u.oneCell' = true := by
  induction rs with
  | nil => simp [rcells]
  | cons r rs ih =>
    intro u hu
    simp only [rcells, List.mem_append, List.mem_cons] at hu
    rcases hu with h | h | h
    · subst h; rfl
    · subst h; rfl
    · exact ih u h
theorem Rs.cells {w : World} {a : Addr} {c : Nat} {rs : List Rn} (h : Rs w (some a) c rs) (j : Nat) (u : Value) (hu : (rcells rs)[j]? = some u) : w.cell? (a.add j) = some u := by
  have hl : j < (rcells rs).length := by
    rcases Nat.lt_or_ge j (rcells rs).length with h | h
    · exact h
    · rw [List.getElem?_eq_none h] at hu; cases hu
  rw [rcells_length] at hl
  have hq : j / 2 < rs.length := by omega
  obtain ⟨g1, g2⟩ := rcells_get rs (j / 2) hq
  obtain ⟨c1, c2⟩ := h.cell a rfl (j / 2) hq
  rcases Nat.mod_two_eq_zero_or_one j with e | e
  · have : j / 2 * 2 = j := by omega
    rw [this] at g1 c1
    rw [g1] at hu
    injection hu with hu
    rw [← hu]; exact c1
  · have : j / 2 * 2 + 1 = j := by omega
    rw [this] at g2
    rw [g2] at hu
    injection hu with hu
    have e2 : a.add j = ⟨(a.add (j / 2 * 2)).block, (a.add (j / 2 * 2)).off + 1, none⟩ := by
      have key : ∀ q : Nat, a.add (q + 1) = ⟨(a.add q).block, (a.add q).off + 1, none⟩ := by
        intro q
        rw [← addr_add_add]
        unfold Addr.add
        simp
      rw [← key, this]
    rw [e2, ← hu]; exact c2
theorem app_runs {P : Program} (W : World) {n₀ : Nat} {i0 : TypeInfo} (T e : TypeId) (z : Value) (hT : P.underlying T = some (.slice e)) (hi : P.info? e = some i0) (hz0 : i0.zero = some z) (hz1 : i0.size = 2) (hz2 : i0.bytes = 16) (hz3 : z.cells.size = 2)
    (v : Value) (rs xs : List Rn) (hrow : W.ownsRow n₀ e 2 v rs.length (rcells rs)) (hn₀ : n₀ ≤ W.heap.size) (A : Option Addr) (c : Nat) (hx : Rs W A c xs) (hl : rs.length + xs.length ≤ 100000) :
    ∃ v' w', (AppS #[T, T] T #[v, .slice A xs.length c]).run P W = .ok v' w' ∧ w'.ownsRow n₀ e 2 v' (rs ++ xs).length (rcells (rs ++ xs)) ∧ W.grownBy w' v.ownBlock := by
  cases A with
  | none =>
    have hc : c = 0 := hx.nil rfl
    subst hc
    have hn : xs = [] := List.eq_nil_of_length_eq_zero (by have := hx.cap; omega)
    subst hn
    exact ⟨v, W, run_append_owned_none W n₀ T T e i0 2 hT hi v rs.length (rcells rs) hrow, by simpa using hrow, World.grownBy.refl W _⟩
  | some ad =>
    obtain ⟨v', w', hr, h2, h3, _⟩ := run_append_own_at (P := P) W n₀ T T e i0 z 2 16 hT hi hz0 hz1 hz2 hz3 (by omega) v rs.length (rcells rs) hrow ad xs.length c (rcells xs) (rcells_length xs) (hx.cells) (rcells_one xs) (by unfold maxLen; omega) (by omega) hn₀
    refine ⟨v', w', hr, ?_, h3⟩
    rw [List.length_append, rcells_append]
    exact h2

set_option maxHeartbeats 1000000 in
theorem size_any (rs : List Rn) (hf : RunsF rs) (A : Option Addr) (c : Nat) (w : World) (hs : Rs w A c rs) :
    Calls Tryd.prog 11 #[.slice A rs.length c] w fun e w' => e = .returned (.int .i64 (tot rs)) ∧ Below w.heap.size w w' := by
  have hT : ∀ i, I64 (rT rs i) := by
    intro i
    unfold I64
    by_cases hi : i < rs.length
    · have h1 := hf.1 i hi
      have h2 := sumT_bound (rs := rs) (k := i) fun j hj => hf.1 j (by omega)
      unfold Good at h1
      omega
    · simp [rT, List.getD_eq_getElem?_getD, List.getElem?_eq_none (show rs.length ≤ i by omega)]
  have hok := runsOk_yes hf
  have hcall := fun W (h : Rs W A c rs) => formedR_any rs hT A c W h
  rw [hok] at hcall
  have HF := Lib.hid hf
  have HT := Lib.hid hT
  have hcap := hs.cap
  have hmax := hs.max
  clear hok hf hT
  go_enter Tryd.func11, Tryd.ntmps11
  go_wp2_with fail
  refine (hcall _ hs).mono ?_
  rintro e w1 ⟨rfl, hb1⟩
  clear hcall
  go_wp2
  go_loopw [3, 11] (fun n i wr => ∃ k : Nat, k ≤ rs.length ∧ i = .int .i64 k ∧ n = .int .i64 (sumT rs k) ∧ Below w.heap.size w wr) (fun n i _ => rs.length - (intOf i).toNat)
  case atStart => exact ⟨0, by omega, rfl, rfl, hb1⟩
  case round =>
    obtain ⟨k, hk, rfl, rfl, hb⟩ := hrel
    by_cases hlt : k < rs.length
    · have hlz : (k : Int) < (rs.length : Int) := by omega
      obtain ⟨ad, rfl, k0, k1⟩ := (hs.below hb).at_ hlt
      have h2 := sumT_bound (rs := rs) (k := k + 1) fun j hj => HF.out.1 j (by omega)
      have h3 : IntKind.i64.wrap (sumT rs k + rT rs k) = sumT rs (k + 1) := by rw [IntKind.wrap_i64]; simp only [sumT] at h2 ⊢; omega
      have hba := hb.alloc hb.size (.cells #[.int .u8 ((rB rs k).toNat : Int), .int .i64 (rT rs k)] 31)
      clear h2
      go_wp2
      go_roundw
      case rel => exact ⟨k + 1, by omega, by go_num, rfl, hba⟩
      case measure => simp [intOf]; omega
    · obtain rfl : k = rs.length := by omega
      have hlz : ¬ (rs.length : Int) < (rs.length : Int) := by omega
      go_wp2
      go_ret
      exact ⟨rfl, hb⟩
theorem awake_true (w : World) : Calls Tryd.prog 6 #[] w fun e w' => e = .returned (.bool true) ∧ Below w.heap.size w w' := by
  have hb := (Below.refl w.heap.size w).alloc (Nat.le_refl _) (.cells #[.int .u8 97, .int .i64 3] 31)
  have h0 : (w.alloc (.cells #[.int .u8 97, .int .i64 3] 31)).cell? ⟨w.heap.size, 0, none⟩ = some (.int .u8 97) := by go_simp
  have h1 : (w.alloc (.cells #[.int .u8 97, .int .i64 3] 31)).cell? ⟨w.heap.size, 0 + 1, none⟩ = some (.int .i64 3) := by go_simp
  have hc := text97 ⟨w.heap.size, 0, none⟩ _ h0 h1 ⟨by decide, by decide, fun h => by (cases h), fun ad e j hj => by
    have : j = 0 := by simp [r97] at hj; omega
    subst this
    injection e with e
    subst e
    exact ⟨h0, h1⟩⟩
  clear h0 h1
  go_enter Tryd.func6, Tryd.ntmps6
  go_wp2_with fail
  refine hc.mono ?_
  rintro e w2 ⟨rfl, hb2⟩
  go_wp2
  go_ret
  exact ⟨rfl, ext_trans hb hb2⟩
end Go.Proofs.YtbdgfbkhplhpkaaDoor
