/- The scanner's walks: end, fail, is, may, must. -/
import Derived.Test.YtaohlmcgaggoeaaDoorMA
import Derived.Test.YtaohlmcgaggoeaaDoorMC
import Derived.BigQuiet
import Derived.Deep.QuietTactic
import Derived.Deep.RegionLaw
import Derived.LoopTactic
import Derived.Outline
import Derived.Lib.Bytealg
import Derived.Deep.LoopGhost
namespace Go.Proofs.YtaohlmcgaggoeaaDoor.P
open Go.RowKit Go.Proofs.YtaohlmcgaggoeaaDoor
set_option linter.unusedVariables false
set_option linter.unusedSimpArgs false

/-- An index, under a name of its own. -/
def IdxG (t : TypeId) (x i : Value) : Sem Value := Instr.index t x i
theorem idxG (t : TypeId) (x i : Value) : Instr.index t x i = IdxG t x i := rfl
theorem idx_run (s : ByteArray) (i : Nat) (hi : i < s.size) (W : World) : (IdxG 9 (.string s) (.int .i64 (i : Int))).run Tryd.prog W = .ok (.int .u8 (gb s i)) W := by
  have hg : gb s i = ((s[i]'hi).toNat : Int) := by unfold gb; rw [dif_pos hi]
  have h0 : ¬ ((i : Int) < 0) := by omega
  have h1 : (i : Int) < (s.size : Int) := by omega
  unfold IdxG
  rw [hg]
  simp [go_sem, Instr.index, Tryd.underlying9, hi]
/-- The reader's block. -/
structure RdB (w : World) (R : Nat) (s : ByteArray) (lv : Value) (st : Sc) : Prop where
  blk : w.heap[R]? = some (.cells #[.string s, .int .i64 (st.at_ : Int), lv, .int .i64 st.pl, .int .i64 st.e] 47)
  hat : st.at_ ≤ s.size
  hsz : s.size ≤ 1000
namespace RdB
variable {w w' : World} {R : Nat} {s : ByteArray} {lv : Value} {st : Sc}
theorem lt (h : RdB w R s lv st) : R < w.heap.size := blk_lt h.blk
theorem cells (h : RdB w R s lv st) : w.cell? ⟨R, 0, none⟩ = some (.string s) ∧ w.cell? ⟨R, 1, none⟩ = some (.int .i64 (st.at_ : Int)) ∧ w.cell? ⟨R, 2, none⟩ = some lv ∧ w.cell? ⟨R, 3, none⟩ = some (.int .i64 st.pl) ∧ w.cell? ⟨R, 4, none⟩ = some (.int .i64 st.e) :=
  ⟨blk_cell h.blk 0, blk_cell h.blk 1, blk_cell h.blk 2, blk_cell h.blk 3, blk_cell h.blk 4⟩
theorem froz (h : RdB w R s lv st) : w.frozen? ⟨R, 0, none⟩ = false ∧ w.frozen? ⟨R, 1, none⟩ = false ∧ w.frozen? ⟨R, 2, none⟩ = false ∧ w.frozen? ⟨R, 3, none⟩ = false ∧ w.frozen? ⟨R, 4, none⟩ = false :=
  ⟨blk_frozen h.blk 0, blk_frozen h.blk 1, blk_frozen h.blk 2, blk_frozen h.blk 3, blk_frozen h.blk 4⟩
theorem keep (h : RdB w R s lv st) (hb : w'.heap[R]? = w.heap[R]?) : RdB w' R s lv st := ⟨hb.trans h.blk, h.hat, h.hsz⟩
theorem below (h : RdB w R s lv st) (hb : Below w.heap.size w w') : RdB w' R s lv st := h.keep (hb.block R h.lt)
theorem drewN (h : RdB w R s lv st) (n : Nat) : RdB (w.drewN n) R s lv st := ⟨h.blk, h.hat, h.hsz⟩
theorem drew (h : RdB w R s lv st) : RdB w.drew R s lv st := ⟨h.blk, h.hat, h.hsz⟩
theorem at_ (h : RdB w R s lv st) (n : Nat) (hn : n ≤ s.size) : RdB (w.setCell ⟨R, 1, none⟩ (.int .i64 (n : Int))) R s lv ⟨n, st.pl, st.e⟩ := ⟨blk_set h.blk 1 _, hn, h.hsz⟩
theorem err (h : RdB w R s lv st) (p e : Int) : RdB ((w.setCell ⟨R, 3, none⟩ (.int .i64 p)).setCell ⟨R, 4, none⟩ (.int .i64 e)) R s lv ⟨st.at_, p, e⟩ := ⟨blk_set (blk_set h.blk 3 _) 4 _, h.hat, h.hsz⟩
theorem lev (h : RdB w R s lv st) (v : Value) : RdB (w.setCell ⟨R, 2, none⟩ v) R s v st := ⟨blk_set h.blk 2 _, h.hat, h.hsz⟩
end RdB
theorem fr_drewN' (B g : Nat) (w : World) (n : Nat) : Fr B g w (w.drewN n) := ⟨rfl, rfl, rfl, Nat.le_refl _, fun _ _ _ => rfl⟩
theorem fr_set (w : World) (R i : Nat) (u : Value) : Fr w.heap.size R w (w.setCell ⟨R, i, none⟩ u) := (Fr.refl _ _ w).setCell (p := ⟨R, i, none⟩) (.inr rfl) u
section
variable (R : Nat) (s : ByteArray) (lv : Value) (st : Sc) (w : World)
attribute [local go_sem ↓] idxG
theorem end_any (h : RdB w R s lv st) : Calls Tryd.prog 22 #[.pointer (some ⟨R, 0, none⟩)] w fun e w' => e = .returned (.bool (decide (s.size ≤ st.at_))) ∧ ∃ n, w' = w.drewN n := by
  obtain ⟨c0, c1, c2, c3, c4⟩ := h.cells
  go_enter Tryd.func22, Tryd.ntmps22
  go_wp2
  go_quiet (fail)
  go_wp2
  go_ret
  exact ⟨rfl, _, rfl⟩
theorem fail_any (p e : Int) (h : RdB w R s lv st) : Calls Tryd.prog 24 #[.pointer (some ⟨R, 0, none⟩), .int .i64 p, .int .i64 e] w fun x w' => x = .returned (.tuple #[]) ∧ RdB w' R s lv (st.fail p e) ∧ Fr w.heap.size R w w' := by
  obtain ⟨c0, c1, c2, c3, c4⟩ := h.cells
  obtain ⟨f0, f1, f2, f3, f4⟩ := h.froz
  by_cases he : st.e = 0
  · have hf : st.fail p e = ⟨st.at_, p, e⟩ := by unfold Sc.fail; rw [if_pos he]
    rw [hf]
    rw [he] at c4
    have h2 := h.err p e
    have h3 := (fr_set w R 3 (.int .i64 p)).setCell (p := ⟨R, 4, none⟩) (.inr rfl) (.int .i64 e)
    go_enter Tryd.func24, Tryd.ntmps24
    go_wp2
    go_end0
    exact ⟨rfl, h2, h3⟩
  · rw [fail_ne he]
    go_enter Tryd.func24, Tryd.ntmps24
    go_wp2
    go_end0
    exact ⟨rfl, h, Fr.refl _ _ _⟩
theorem is_any (c : Int) (h : RdB w R s lv st) : Calls Tryd.prog 72 #[.pointer (some ⟨R, 0, none⟩), .int .u8 c] w fun x w' => x = .returned (.bool (isB s st c)) ∧ ∃ n, w' = w.drewN n := by
  obtain ⟨c0, c1, c2, c3, c4⟩ := h.cells
  have hE := fun n => end_any R s lv st (w.drewN n) (h.drewN n)
  unfold isB
  by_cases he : st.e = 0
  · rw [decide_eq_true he, Bool.true_and]
    rw [he] at c4
    by_cases hl : st.at_ < s.size
    · rw [decide_eq_true hl, Bool.true_and]
      have hd : decide (s.size ≤ st.at_) = false := decide_eq_false (by omega)
      simp only [hd] at hE
      have hi := fun W => idx_run s st.at_ hl W
      have hq : (gb s st.at_ == c) = decide (gb s st.at_ = c) := rfl
      generalize gb s st.at_ = b at *
      clear hd
      go_enter Tryd.func72, Tryd.ntmps72
      go_wp2
      go_quiet ((go_at_call 22; exact Calls.quiet_of (hE _)))
      go_wp2
      go_ret
      exact ⟨rfl, _, rfl⟩
    · have hd : decide (s.size ≤ st.at_) = true := decide_eq_true (by omega)
      simp only [hd] at hE
      rw [decide_eq_false hl, Bool.false_and]
      clear hd
      go_enter Tryd.func72, Tryd.ntmps72
      go_wp2
      go_quiet ((go_at_call 22; exact Calls.quiet_of (hE _)))
      go_wp2
      go_ret
      exact ⟨rfl, _, rfl⟩
  · rw [decide_eq_false he, Bool.false_and]
    have hz : (st.e == 0) = false := by simp [he]
    clear hE
    go_enter Tryd.func72, Tryd.ntmps72
    go_wp2
    go_quiet (fail)
    go_wp2
    go_ret
    exact ⟨rfl, _, rfl⟩
theorem may_any (c : Int) (h : RdB w R s lv st) : Calls Tryd.prog 58 #[.pointer (some ⟨R, 0, none⟩), .int .u8 c] w fun x w' => x = .returned (.bool (isB s st c)) ∧ RdB w' R s lv (mayS s st c) ∧ Fr w.heap.size R w w' := by
  have hI := is_any R s lv st w c h
  unfold mayS
  cases hb : isB s st c with
  | false =>
    rw [hb] at hI
    rw [if_neg (by decide)]
    clear hb
    go_enter Tryd.func58, Tryd.ntmps58
    go_wp2_with fail
    refine hI.mono ?_
    rintro e w' ⟨rfl, n, rfl⟩
    have h2 := h.drewN n
    have h3 := fr_drewN' w.heap.size R w n
    clear hI
    generalize w.drewN n = w1 at *
    go_wp2
    go_ret
    exact ⟨rfl, h2, h3⟩
  | true =>
    rw [hb] at hI
    obtain ⟨b0, b1, b2⟩ := isB_lt hb
    rw [if_pos rfl]
    clear hb b2
    have hw : IntKind.i64.wrap ((st.at_ : Int) + 1) = ((st.at_ + 1 : Nat) : Int) := by rw [IntKind.wrap_i64]; have := h.hsz; omega
    go_enter Tryd.func58, Tryd.ntmps58
    go_wp2_with fail
    refine hI.mono ?_
    rintro e w' ⟨rfl, n, rfl⟩
    have h2 := h.drewN n
    obtain ⟨c0, c1, c2, c3, c4⟩ := h2.cells
    obtain ⟨f0, f1, f2, f3, f4⟩ := h2.froz
    have h3 := h2.at_ (st.at_ + 1) b1
    have h4 := (fr_drewN' w.heap.size R w n).trans ((fr_set (w.drewN n) R 1 (.int .i64 ((st.at_ + 1 : Nat) : Int))).mono (Nat.le_refl _))
    clear hI h2
    generalize w.drewN n = w1 at *
    go_wp2
    go_ret
    exact ⟨rfl, h3, h4⟩
theorem must_any (c : Int) (h : RdB w R s lv st) : Calls Tryd.prog 73 #[.pointer (some ⟨R, 0, none⟩), .int .u8 c] w fun x w' => x = .returned (.tuple #[]) ∧ RdB w' R s lv (mustS s st c) ∧ Fr w.heap.size R w w' := by
  have hI := may_any R s lv st w c h
  unfold mayS at hI
  unfold mustS
  cases hb : isB s st c with
  | false =>
    rw [hb, if_neg (by decide)] at hI
    rw [if_neg (by decide)]
    clear hb
    go_enter Tryd.func73, Tryd.ntmps73
    go_wp2_with fail
    refine hI.mono ?_
    rintro e w1 ⟨rfl, h2, h3⟩
    have hF := fail_any R s lv st w1 st.at_ 2 h2
    obtain ⟨c0, c1, c2, c3, c4⟩ := h2.cells
    clear hI
    go_wp2_with fail
    refine hF.mono ?_
    rintro e w2 ⟨rfl, h4, h5⟩
    clear hF
    go_wp2
    go_end0
    exact ⟨rfl, h4, h3.trans (h5.mono h3.size)⟩
  | true =>
    rw [hb, if_pos rfl] at hI
    rw [if_pos rfl]
    clear hb
    go_enter Tryd.func73, Tryd.ntmps73
    go_wp2_with fail
    refine hI.mono ?_
    rintro e w1 ⟨rfl, h2, h3⟩
    clear hI
    go_wp2
    go_end0
    exact ⟨rfl, h2, h3⟩
end
end Go.Proofs.YtaohlmcgaggoeaaDoor.P
/- The scanner's walks: bytes looked for in a text; digit, escape, item. -/
namespace Go.Proofs.YtaohlmcgaggoeaaDoor.P
open Go.RowKit Go.Proofs.YtaohlmcgaggoeaaDoor
set_option linter.unusedVariables false
set_option linter.unusedSimpArgs false

def hexS : ByteArray := ⟨#[48, 49, 50, 51, 52, 53, 54, 55, 56, 57, 97, 98, 99, 100, 101, 102]⟩
def escS : ByteArray := ⟨#[40, 41, 91, 93, 123, 125, 124, 42, 43, 63, 46, 92, 45, 94]⟩
def inS : ByteArray := ⟨#[93, 92, 45, 94]⟩
/-- Where a byte is in a text. -/
def ixB (l : ByteArray) (c : Int) : Int := Lib.indexByte l.data.toList c.toNat.toUInt8
theorem ix_hex0 : ∀ k : Fin 256, Lib.indexByte hexS.data.toList (k.1 : Int).toNat.toUInt8 = hexI (k.1 : Int) := by decide +kernel
theorem ix_esc0 : ∀ k : Fin 256, decide (Lib.indexByte escS.data.toList (k.1 : Int).toNat.toUInt8 < 0) = !escC (k.1 : Int) := by decide +kernel
theorem ix_in0 : ∀ k : Fin 256, decide (Lib.indexByte inS.data.toList (k.1 : Int).toNat.toUInt8 ≥ 0) = inC (k.1 : Int) := by decide +kernel
theorem fin_of {c : Int} (h0 : 0 ≤ c) (h1 : c < 256) : ∃ k : Fin 256, c = (k.1 : Int) := ⟨⟨c.toNat, by omega⟩, by show c = (c.toNat : Int); omega⟩
theorem ix_hex {c : Int} (h0 : 0 ≤ c) (h1 : c < 256) : ixB hexS c = hexI c := by obtain ⟨k, rfl⟩ := fin_of h0 h1; exact ix_hex0 k
theorem ix_esc {c : Int} (h0 : 0 ≤ c) (h1 : c < 256) : decide (ixB escS c < 0) = !escC c := by obtain ⟨k, rfl⟩ := fin_of h0 h1; exact ix_esc0 k
theorem ix_in {c : Int} (h0 : 0 ≤ c) (h1 : c < 256) : decide (ixB inS c ≥ 0) = inC c := by obtain ⟨k, rfl⟩ := fin_of h0 h1; exact ix_in0 k
theorem hexI_range (c : Int) : -1 ≤ hexI c ∧ hexI c ≤ 15 := by
  unfold hexI
  split
  · omega
  · split <;> omega
theorem ib_call (l : ByteArray) (c : Int) (W : World) : (callFunc 63 #[.string l, .int .u8 c]).run Tryd.prog W = .ok (.value (.int .i64 (ixB l c))) W := by
  rw [run_callFunc_extern Tryd.func63 (by kernel_rfl) (by kernel_rfl) (by kernel_rfl) (e := Extern.BytealgIndexByte.indexByte) (by kernel_rfl), Lib.run_indexByteString]
  rfl
theorem ib63 (l : ByteArray) (c : Int) (w : World) : Calls Tryd.prog 47 #[.string l, .int .u8 c] w fun e w' => e = .returned (.int .i64 (ixB l c)) ∧ w = w' := by
  have h := fun W => ib_call l c W
  generalize ixB l c = k at *
  go_enter Tryd.func47, Tryd.ntmps47
  go_wp2
  go_ret
  exact ⟨rfl, rfl⟩
theorem ib54 (l : ByteArray) (c : Int) (w : World) : Calls Tryd.prog 30 #[.string l, .int .u8 c] w fun e w' => e = .returned (.int .i64 (ixB l c)) ∧ w = w' := by
  have h := fun W => ib63 l c W
  generalize ixB l c = k at *
  go_enter Tryd.func30, Tryd.ntmps30
  go_wp2_with fail
  refine (h _).mono ?_
  rintro e w' ⟨rfl, rfl⟩
  go_wp2
  go_ret
  exact ⟨rfl, rfl⟩
attribute [local go_sem ↓] idxG
theorem ix74 (b : UInt8) (w : World) : Calls Tryd.prog 88 #[.string hexS, .string ⟨#[b]⟩] w fun e w' => e = .returned (.int .i64 (ixB hexS (b.toNat : Int))) ∧ w = w' := by
  have h := fun W => ib63 hexS (b.toNat : Int) W
  have hi : ∀ W, (IdxG 9 (.string ⟨#[b]⟩) (.int .i64 0)).run Tryd.prog W = .ok (.int .u8 (b.toNat : Int)) W := fun W => idx_run ⟨#[b]⟩ 0 (show 0 < 1 from Nat.one_pos) W
  have hs : (⟨#[b]⟩ : ByteArray).size = 1 := rfl
  obtain ⟨u, hu⟩ : ∃ u : ByteArray, u = ⟨#[b]⟩ := ⟨_, rfl⟩
  rw [← hu] at hi hs ⊢
  have hne : (u.toList == hexS.toList) = false := by
    rw [beq_eq_false_iff_ne]
    intro e
    rw [ByteArray.toList_eq, ByteArray.toList_eq] at e
    have h2 : u.data.toList.length = hexS.data.toList.length := congrArg List.length e
    rw [← Lib.size_eq, ← Lib.size_eq, hs] at h2
    exact absurd h2 (by decide)
  have hsz : hexS.size = 16 := rfl
  generalize ixB hexS (b.toNat : Int) = k at *
  generalize (b.toNat : Int) = bb at *
  clear hu
  generalize hexS = hh at *
  go_enter Tryd.func88, Tryd.ntmps88
  go_wp2_with fail
  refine (h _).mono ?_
  rintro e w' ⟨rfl, rfl⟩
  go_wp2
  go_ret
  exact ⟨rfl, rfl⟩
theorem ix69 (b : UInt8) (w : World) : Calls Tryd.prog 82 #[.string hexS, .string ⟨#[b]⟩] w fun e w' => e = .returned (.int .i64 (ixB hexS (b.toNat : Int))) ∧ w = w' := by
  have h := fun W => ix74 b W
  generalize ixB hexS (b.toNat : Int) = k at *
  generalize hexS = hh at *
  go_enter Tryd.func82, Tryd.ntmps82
  go_wp2_with fail
  refine (h _).mono ?_
  rintro e w' ⟨rfl, rfl⟩
  go_wp2
  go_ret
  exact ⟨rfl, rfl⟩
theorem con_any (b : UInt8) (w : World) : Calls Tryd.prog 75 #[.string hexS, .string ⟨#[b]⟩] w fun e w' => e = .returned (.bool (decide (0 ≤ ixB hexS (b.toNat : Int)))) ∧ w = w' := by
  have h := fun W => ix69 b W
  generalize ixB hexS (b.toNat : Int) = k at *
  generalize hexS = hh at *
  go_enter Tryd.func75, Tryd.ntmps75
  go_wp2_with fail
  refine (h _).mono ?_
  rintro e w' ⟨rfl, rfl⟩
  go_wp2
  go_ret
  exact ⟨rfl, rfl⟩
/-- A part of a text, under a name of its own. -/
def SlcG (t : TypeId) (x : Value) (a b : Value) : Sem Value := Instr.slice t x (some a) (some b) none
theorem slcG (x : ByteArray) (a b : Value) : Instr.slice 9 (.string x) (some a) (some b) none = SlcG 9 (.string x) a b := rfl
theorem slc_run (s : ByteArray) (i : Nat) (hi : i < s.size) (W : World) : (SlcG 9 (.string s) (.int .i64 (i : Int)) (.int .i64 ((i + 1 : Nat) : Int))).run Tryd.prog W = .ok (.string ⟨#[s[i]'hi]⟩) W := by
  have h := run_slice_string (P := Tryd.prog) W 9 s .i64 .i64 (i : Int) ((i + 1 : Nat) : Int) Tryd.underlying9 (by omega) (by omega) (by omega)
  have e : s.extract i (i + 1) = ⟨#[s[i]'hi]⟩ := by
    obtain ⟨⟨l⟩⟩ := s
    rw [ByteArray.extract_mk]
    have hl : i < l.length := hi
    have hx : (List.drop i l).take (i + 1 - i) = [l[i]] := by
      rw [Nat.add_sub_cancel_left, List.drop_eq_getElem_cons hl]
      rfl
    exact congrArg (fun q : List UInt8 => (⟨⟨q⟩⟩ : ByteArray)) hx
  simp only [Int.toNat_natCast] at h
  rw [e] at h
  exact h
section
variable (R : Nat) (s : ByteArray) (lv : Value) (st : Sc) (w : World)
attribute [local go_sem ↓] slcG
theorem hex_i (i : Nat) (hi : i < s.size) : ixB hexS ((s[i]'hi).toNat : Int) = hexI (gb s i) := by
  have hg : gb s i = ((s[i]'hi).toNat : Int) := by unfold gb; rw [dif_pos hi]
  rw [← hg]
  exact ix_hex (gb_range s i).1 (gb_range s i).2
set_option maxHeartbeats 1000000 in
theorem digit_any (h : RdB w R s lv st) : Calls Tryd.prog 62 #[.pointer (some ⟨R, 0, none⟩)] w fun x w' => x = .returned (.int .u8 (digitS s st).1) ∧ RdB w' R s lv (digitS s st).2 ∧ Fr w.heap.size R w w' := by
  obtain ⟨c0, c1, c2, c3, c4⟩ := h.cells
  have hE := fun n => end_any R s lv st (w.drewN n) (h.drewN n)
  -- the arm that fails
  have fin : ∀ (n : Nat), Calls Tryd.prog 24 #[.pointer (some ⟨R, 0, none⟩), .int .i64 (st.at_ : Int), .int .i64 2] (w.drewN n) fun x w' => x = .returned (.tuple #[]) ∧ RdB w' R s lv (st.fail st.at_ 2) ∧ Fr w.heap.size R w w' := fun n =>
    (fail_any R s lv st (w.drewN n) st.at_ 2 (h.drewN n)).mono fun e w' ⟨a, b, c⟩ => ⟨a, b, (fr_drewN' w.heap.size R w n).trans c⟩
  unfold digitS
  by_cases he : st.e = 0
  · rw [he] at c4
    by_cases hl : st.at_ < s.size
    · have hd : decide (s.size ≤ st.at_) = false := decide_eq_false (by omega)
      simp only [hd] at hE
      have hw : IntKind.i64.wrap ((st.at_ : Int) + 1) = ((st.at_ + 1 : Nat) : Int) := by rw [IntKind.wrap_i64]; have := h.hsz; omega
      have hsl := fun W => slc_run s st.at_ hl W
      have hc := fun n => con_any (s[st.at_]'hl) (w.drewN n)
      have hx := hex_i s st.at_ hl
      by_cases hh : 0 ≤ hexI (gb s st.at_)
      · rw [if_pos ⟨he, hl, hh⟩]
        have hr := hexI_range (gb s st.at_)
        have hx2 : ixB hexS (gb s st.at_) = hexI (gb s st.at_) := ix_hex (gb_range s st.at_).1 (gb_range s st.at_).2
        have hcT : decide (0 ≤ ixB hexS ((s[st.at_]'hl).toNat : Int)) = true := decide_eq_true (by rw [hx]; exact hh)
        simp only [hcT] at hc
        have hib := fun W => ib54 hexS (gb s st.at_) W
        rw [hx2] at hib
        have hidx := fun W => idx_run s st.at_ hl W
        generalize s[st.at_]'hl = bb at *
        generalize gb s st.at_ = c at *
        generalize hexI c = k at *
        have hwk : IntKind.u8.wrap k = k := by rw [IntKind.wrap_u8]; omega
        have hm1 : ((st.at_ + 1 : Nat) : Int) - 1 = (st.at_ : Int) := by omega
        have hm2 : IntKind.i64.wrap (((st.at_ + 1 : Nat) : Int) - 1) = (st.at_ : Int) := by rw [hm1, IntKind.wrap_i64]; have := h.hsz; omega
        obtain ⟨p, hp⟩ : ∃ p : Nat, p = st.at_ + 1 := ⟨_, rfl⟩
        rw [← hp] at hw hsl hm1 hm2
        clear hm1
        have hpl : p ≤ s.size := by omega
        have hst : (⟨p, st.pl, st.e⟩ : Sc) = st.adv := by rw [hp]; rfl
        have HST := Lib.hid hst
        have HP := Lib.hid hp
        clear hx hx2 hcT hd hp hst fin
        go_enter Tryd.func62, Tryd.ntmps62
        go_wp2
        go_quiet (first | (go_at_call 22; exact Calls.quiet_of (hE _)) | (go_at_call 75; exact Calls.quiet_of_same ((hc _).mono fun _ _ h => ⟨h.1, h.2.symm⟩)))
        have h2 := h.drewN nq
        have h3 := h2.at_ p hpl
        have h4 := (fr_drewN' w.heap.size R w nq).trans ((fr_set (w.drewN nq) R 1 (.int .i64 (p : Int))).mono (Nat.le_refl _))
        obtain ⟨d0, d1, d2, d3, d4⟩ := h2.cells
        obtain ⟨f0, f1, f2, f3, f4⟩ := h2.froz
        obtain ⟨g0, g1, g2, g3, g4⟩ := h3.cells
        clear hE hc c0 c1 c2 c3 c4 h2
        generalize w.drewN nq = w1 at *
        go_wp2_with fail
        clear d0 d1 d2 d3 d4
        generalize w1.setCell ⟨R, 1, none⟩ (.int .i64 (p : Int)) = w2 at *
        go_quiet ((go_at_call 30; exact Calls.quiet_of_same ((hib _).mono fun _ _ h => ⟨h.1, h.2.symm⟩)))
        go_wp2
        go_ret
        refine ⟨rfl, ?_, h4.trans (fr_drewN' _ _ _ _)⟩
        rw [← HST.out]
        exact h3.drewN _
      · rw [if_neg (fun a => hh a.2.2)]
        have hcF : decide (0 ≤ ixB hexS ((s[st.at_]'hl).toNat : Int)) = false := decide_eq_false (by rw [hx]; exact hh)
        simp only [hcF] at hc
        generalize s[st.at_]'hl = bb at *
        obtain ⟨p, hp⟩ : ∃ p : Nat, p = st.at_ + 1 := ⟨_, rfl⟩
        rw [← hp] at hw hsl
        clear hx hcF hd hh hp
        go_enter Tryd.func62, Tryd.ntmps62
        go_wp2
        go_quiet (first | (go_at_call 22; exact Calls.quiet_of (hE _)) | (go_at_call 75; exact Calls.quiet_of_same ((hc _).mono fun _ _ h => ⟨h.1, h.2.symm⟩)))
        go_wp2_with fail
        refine (fin _).mono ?_
        rintro e w2 ⟨rfl, h4, h5⟩
        clear hE hc fin
        go_wp2
        go_ret
        exact ⟨rfl, h4, h5⟩
    · rw [if_neg (fun a => hl a.2.1)]
      have hd : decide (s.size ≤ st.at_) = true := decide_eq_true (by omega)
      simp only [hd] at hE
      clear hd
      go_enter Tryd.func62, Tryd.ntmps62
      go_wp2
      go_quiet ((go_at_call 22; exact Calls.quiet_of (hE _)))
      go_wp2_with fail
      refine (fin _).mono ?_
      rintro e w2 ⟨rfl, h4, h5⟩
      clear hE fin
      go_wp2
      go_ret
      exact ⟨rfl, h4, h5⟩
  · rw [if_neg (fun a => he a.1)]
    have hz : (st.e != 0) = true := by simp [he]
    clear hE
    go_enter Tryd.func62, Tryd.ntmps62
    go_wp2
    go_quiet (fail)
    go_wp2_with fail
    refine (fin _).mono ?_
    rintro e w2 ⟨rfl, h4, h5⟩
    clear fin
    go_wp2
    go_ret
    exact ⟨rfl, h4, h5⟩
end
end Go.Proofs.YtaohlmcgaggoeaaDoor.P
/- The scanner's walks: escape, item, items. -/
namespace Go.Proofs.YtaohlmcgaggoeaaDoor.P
open Go.RowKit Go.Proofs.YtaohlmcgaggoeaaDoor
set_option linter.unusedVariables false
set_option linter.unusedSimpArgs false
attribute [local go_sem ↓] idxG
section
variable (R : Nat) (s : ByteArray) (lv : Value) (st : Sc) (w : World)
theorem may_no (c : Int) (h : RdB w R s lv st) (hb : isB s st c = false) : Calls Tryd.prog 58 #[.pointer (some ⟨R, 0, none⟩), .int .u8 c] w fun x w' => x = .returned (.bool false) ∧ RdB w' R s lv st ∧ Fr w.heap.size R w w' := by
  have := may_any R s lv st w c h
  unfold mayS at this
  rw [hb, if_neg (by decide)] at this
  exact this
theorem may_yes (c : Int) (h : RdB w R s lv st) (hb : isB s st c = true) : Calls Tryd.prog 58 #[.pointer (some ⟨R, 0, none⟩), .int .u8 c] w fun x w' => x = .returned (.bool true) ∧ RdB w' R s lv st.adv ∧ Fr w.heap.size R w w' := by
  have := may_any R s lv st w c h
  unfold mayS at this
  rw [hb, if_pos rfl] at this
  exact this
theorem two_dig0 : ∀ a b : Fin 16, bits .or .u8 ((a.1 : Int) * 16) (b.1 : Int) = (a.1 : Int) * 16 + (b.1 : Int) := by decide +kernel
theorem two_dig {a b : Int} (h0 : 0 ≤ a) (h1 : a ≤ 15) (h2 : 0 ≤ b) (h3 : b ≤ 15) : bits .or .u8 (a * 16) b = a * 16 + b := by
  have := two_dig0 ⟨a.toNat, by omega⟩ ⟨b.toNat, by omega⟩
  simpa [Int.toNat_of_nonneg h0, Int.toNat_of_nonneg h2] using this
theorem digit_range : 0 ≤ (digitS s st).1 ∧ (digitS s st).1 ≤ 15 := by
  unfold digitS
  split
  · rename_i h
    have := hexI_range (gb s st.at_)
    exact ⟨h.2.2, this.2⟩
  · exact ⟨Int.le_refl 0, (by decide : (0 : Int) ≤ 15)⟩
set_option maxHeartbeats 2000000 in
theorem escape_any (he : st.e = 0) (h : RdB w R s lv st) : Calls Tryd.prog 46 #[.pointer (some ⟨R, 0, none⟩)] w fun x w' => x = .returned (.int .u8 (escapeS s st).1) ∧ RdB w' R s lv (escapeS s st).2 ∧ Fr w.heap.size R w w' := by
  unfold escapeS
  cases b1 : isB s st 110 with
  | true =>
    rw [if_pos rfl]
    have hM := may_yes R s lv st w 110 h b1
    clear b1
    go_enter Tryd.func46, Tryd.ntmps46
    go_wp2_with fail
    refine hM.mono ?_
    rintro e w1 ⟨rfl, h1, k1⟩
    clear hM
    go_wp2
    go_ret
    exact ⟨rfl, h1, k1⟩
  | false =>
    have hM := may_no R s lv st w 110 h b1
    rw [if_neg (by decide)]
    cases b2 : isB s st 116 with
    | true =>
      rw [if_pos rfl]
      clear b1
      go_enter Tryd.func46, Tryd.ntmps46
      go_wp2_with fail
      refine hM.mono ?_
      rintro e w1 ⟨rfl, h1, k1⟩
      have hM2 := may_yes R s lv st w1 116 h1 b2
      clear hM b2
      go_wp2_with fail
      refine hM2.mono ?_
      rintro e w2 ⟨rfl, h2, k2⟩
      clear hM2
      go_wp2
      go_ret
      exact ⟨rfl, h2, k1.trans (k2.mono k1.size)⟩
    | false =>
      rw [if_neg (by decide)]
      cases b3 : isB s st 120 with
      | true =>
        rw [if_pos rfl]
        have hr1 := digit_range s st.adv
        have hr2 := digit_range s (digitS s st.adv).2
        have htwo := two_dig hr1.1 hr1.2 hr2.1 hr2.2
        obtain ⟨d1, hd1⟩ : ∃ d, d = digitS s st.adv := ⟨_, rfl⟩
        have hD1 := fun w h => digit_any R s lv st.adv w h
        rw [← hd1] at hr1 hr2 htwo hD1 ⊢
        obtain ⟨d2, hd2⟩ : ∃ d, d = digitS s d1.2 := ⟨_, rfl⟩
        have hD2 := fun w h => digit_any R s lv d1.2 w h
        rw [← hd2] at hr2 htwo hD2 ⊢
        obtain ⟨a, st1⟩ := d1
        obtain ⟨b, st2⟩ := d2
        dsimp only at *
        have HT := Lib.hid htwo
        clear b1 hd1 hd2 htwo
        go_enter Tryd.func46, Tryd.ntmps46
        go_wp2_with fail
        refine hM.mono ?_
        rintro e w1 ⟨rfl, h1, k1⟩
        have hM2 := may_no R s lv st w1 116 h1 b2
        clear hM b2
        go_wp2_with fail
        refine hM2.mono ?_
        rintro e w2 ⟨rfl, h2, k2⟩
        have hM3 := may_yes R s lv st w2 120 h2 b3
        clear hM2 b3
        go_wp2_with fail
        refine hM3.mono ?_
        rintro e w3 ⟨rfl, h3, k3⟩
        have hM4 := hD1 w3 h3
        clear hM3 hD1
        go_wp2_with fail
        refine hM4.mono ?_
        rintro e w4 ⟨rfl, h4, k4⟩
        have hM5 := hD2 w4 h4
        clear hM4 hD2
        have e4 : Fr w.heap.size R w w4 := ((k1.trans (k2.mono k1.size)).trans (k3.mono (Nat.le_trans k1.size k2.size))).trans (k4.mono (Nat.le_trans (Nat.le_trans k1.size k2.size) k3.size))
        go_wp2_with fail
        refine hM5.mono ?_
        rintro e w5 ⟨rfl, h5, k5⟩
        clear hM5
        go_wp2
        go_ret
        exact ⟨congrArg (fun n => Ending.returned (.int .u8 n)) HT.out, h5, e4.trans (k5.mono e4.size)⟩
      | false =>
        rw [if_neg (by decide)]
        -- the three that don't
        have go3 : Calls Tryd.prog 58 #[.pointer (some ⟨R, 0, none⟩), .int .u8 110] w fun x w1 => x = .returned (.bool false) ∧ Calls Tryd.prog 58 #[.pointer (some ⟨R, 0, none⟩), .int .u8 116] w1 fun x w2 => x = .returned (.bool false) ∧
            Calls Tryd.prog 58 #[.pointer (some ⟨R, 0, none⟩), .int .u8 120] w2 fun x w3 => x = .returned (.bool false) ∧ RdB w3 R s lv st ∧ Fr w.heap.size R w w3 :=
          hM.mono fun e w1 ⟨a, h1, k1⟩ => ⟨a, (may_no R s lv st w1 116 h1 b2).mono fun e w2 ⟨a, h2, k2⟩ => ⟨a, (may_no R s lv st w2 120 h2 b3).mono fun e w3 ⟨a, h3, k3⟩ => ⟨a, h3, (k1.trans (k2.mono k1.size)).trans (k3.mono (Nat.le_trans k1.size k2.size))⟩⟩⟩
        clear b1 b2 b3 hM
        by_cases hl : st.at_ < s.size
        · have hd : decide (s.size ≤ st.at_) = false := decide_eq_false (by omega)
          have hidx := fun W => idx_run s st.at_ hl W
          have hib := fun W => ib54 escS (gb s st.at_) W
          have hix := ix_esc (gb_range s st.at_).1 (gb_range s st.at_).2
          have hw : IntKind.i64.wrap ((st.at_ : Int) + 1) = ((st.at_ + 1 : Nat) : Int) := by rw [IntKind.wrap_i64]; have := h.hsz; omega
          have hm2 : IntKind.i64.wrap (((st.at_ + 1 : Nat) : Int) - 1) = (st.at_ : Int) := by rw [IntKind.wrap_i64]; have := h.hsz; omega
          cases hc : escC (gb s st.at_) with
          | true =>
            rw [if_pos ⟨hl, rfl⟩]
            rw [hc] at hix
            have hlt : decide (ixB escS (gb s st.at_) < 0) = false := hix
            generalize ixB escS (gb s st.at_) = k at *
            generalize gb s st.at_ = c at *
            obtain ⟨p, hp⟩ : ∃ p : Nat, p = st.at_ + 1 := ⟨_, rfl⟩
            rw [← hp] at hw hm2
            have hpl : p ≤ s.size := by omega
            have hst : (⟨p, st.pl, st.e⟩ : Sc) = st.adv := by rw [hp]; rfl
            have HST := Lib.hid hst
            clear hix hc hp hst
            go_enter Tryd.func46, Tryd.ntmps46
            go_wp2_with fail
            refine go3.mono ?_
            rintro e w1 ⟨rfl, go2⟩
            go_wp2_with fail
            refine go2.mono ?_
            rintro e w2 ⟨rfl, go1⟩
            go_wp2_with fail
            refine go1.mono ?_
            rintro e w3 ⟨rfl, h3, k3⟩
            clear go3 go2 go1
            obtain ⟨c0, c1, c2, c3, c4⟩ := h3.cells
            have hE := fun n => end_any R s lv st (w3.drewN n) (h3.drewN n)
            simp only [hd] at hE
            clear hd
            go_wp2
            go_quiet (first | (go_at_call 22; exact Calls.quiet_of (hE _)) | (go_at_call 30; exact Calls.quiet_of_same ((hib _).mono fun _ _ h => ⟨h.1, h.2.symm⟩)))
            have h2 := h3.drewN nq
            have h4 := h2.at_ p hpl
            have k4 := (k3.trans (fr_drewN' _ R w3 nq)).trans ((fr_set (w3.drewN nq) R 1 (.int .i64 (p : Int))).mono k3.size)
            obtain ⟨d0, d1, d2, d3, d4⟩ := h2.cells
            obtain ⟨f0, f1, f2, f3, f4⟩ := h2.froz
            obtain ⟨g0, g1, g2, g3, g4⟩ := h4.cells
            clear hE c0 c1 c2 c3 c4 h2 hib
            generalize w3.drewN nq = w4 at *
            go_wp2_with fail
            clear d0 d1 d2 d3 d4
            generalize w4.setCell ⟨R, 1, none⟩ (.int .i64 (p : Int)) = w5 at *
            go_quiet (fail)
            go_wp2
            go_ret
            refine ⟨rfl, ?_, k4.trans (fr_drewN' _ _ _ _)⟩
            rw [← HST.out]
            exact h4.drewN _
          | false =>
            rw [if_neg (fun a => by cases a.2)]
            rw [hc] at hix
            have hlt : decide (ixB escS (gb s st.at_) < 0) = true := hix
            generalize ixB escS (gb s st.at_) = k at *
            generalize gb s st.at_ = c at *
            clear hix hc hw hm2
            go_enter Tryd.func46, Tryd.ntmps46
            go_wp2_with fail
            refine go3.mono ?_
            rintro e w1 ⟨rfl, go2⟩
            go_wp2_with fail
            refine go2.mono ?_
            rintro e w2 ⟨rfl, go1⟩
            go_wp2_with fail
            refine go1.mono ?_
            rintro e w3 ⟨rfl, h3, k3⟩
            clear go3 go2 go1
            obtain ⟨c0, c1, c2, c3, c4⟩ := h3.cells
            have hE := fun n => end_any R s lv st (w3.drewN n) (h3.drewN n)
            have hF := fun n => fail_any R s lv st (w3.drewN n) st.at_ 2 (h3.drewN n)
            simp only [hd] at hE
            clear hd
            go_wp2
            go_quiet (first | (go_at_call 22; exact Calls.quiet_of (hE _)) | (go_at_call 30; exact Calls.quiet_of_same ((hib _).mono fun _ _ h => ⟨h.1, h.2.symm⟩)))
            go_wp2_with fail
            refine (hF _).mono ?_
            rintro e w4 ⟨rfl, h4, k4⟩
            clear hE hF hib
            go_wp2
            go_ret
            exact ⟨rfl, h4, (k3.trans (fr_drewN' _ R w3 nq)).trans (k4.mono k3.size)⟩
        · rw [if_neg (fun a => hl a.1)]
          have hd : decide (s.size ≤ st.at_) = true := decide_eq_true (by omega)
          go_enter Tryd.func46, Tryd.ntmps46
          go_wp2_with fail
          refine go3.mono ?_
          rintro e w1 ⟨rfl, go2⟩
          go_wp2_with fail
          refine go2.mono ?_
          rintro e w2 ⟨rfl, go1⟩
          go_wp2_with fail
          refine go1.mono ?_
          rintro e w3 ⟨rfl, h3, k3⟩
          clear go3 go2 go1
          obtain ⟨c0, c1, c2, c3, c4⟩ := h3.cells
          have hE := fun n => end_any R s lv st (w3.drewN n) (h3.drewN n)
          have hF := fun n => fail_any R s lv st (w3.drewN n) st.at_ 2 (h3.drewN n)
          simp only [hd] at hE
          clear hd
          go_wp2
          go_quiet ((go_at_call 22; exact Calls.quiet_of (hE _)))
          go_wp2_with fail
          refine (hF _).mono ?_
          rintro e w4 ⟨rfl, h4, k4⟩
          clear hE hF
          go_wp2
          go_ret
          exact ⟨rfl, h4, (k3.trans (fr_drewN' _ R w3 nq)).trans (k4.mono k3.size)⟩
end
end Go.Proofs.YtaohlmcgaggoeaaDoor.P
/- The scanner's walks: item, items. -/
namespace Go.Proofs.YtaohlmcgaggoeaaDoor.P
open Go.RowKit Go.Proofs.YtaohlmcgaggoeaaDoor
set_option linter.unusedVariables false
set_option linter.unusedSimpArgs false
attribute [local go_sem ↓] idxG
theorem fail_e (st : Sc) (p : Int) : (st.fail p 2).e ≠ 0 := by
  unfold Sc.fail
  split
  · exact two_ne
  · assumption
section
variable {s : ByteArray} {st : Sc}
theorem item_adv (h : st.at_ ≤ s.size) (he : (itemS s st).2.e = 0) : st.at_ < (itemS s st).2.at_ ∧ st.e = 0 := by
  unfold itemS at he ⊢
  split at he
  · rename_i hb
    rw [if_pos hb]
    have h1 := isB_lt hb
    have h2 := le_escape (s := s) (st := st.adv) h1.2.1
    exact ⟨by have := h2.1; have : st.adv.at_ = st.at_ + 1 := rfl; omega, h1.1⟩
  · rename_i hb
    rw [if_neg hb]
    split at he
    · rename_i h1
      rw [if_pos h1]
      exact ⟨Nat.lt_succ_self _, h1.1⟩
    · exact absurd he (fail_e _ _)
theorem items_adv (h : st.at_ ≤ s.size) (he : (itemsS s st).2.e = 0) : st.at_ < (itemsS s st).2.at_ ∧ st.e = 0 := by
  have h0 := le_item h
  unfold itemsS at he ⊢
  split at he
  · rename_i hb
    rw [if_pos hb]
    have h1 := isB_lt hb
    have h2 := item_adv h h1.1
    have h3 := le_item (s := s) (st := (itemS s st).2.adv) h1.2.1
    have h4 : (itemS s st).2.adv.at_ = (itemS s st).2.at_ + 1 := rfl
    have h5 := h3.1
    refine ⟨?_, h2.2⟩
    dsimp only
    split
    · rw [fail_at]; omega
    · omega
  · rename_i hb
    rw [if_neg hb]
    exact item_adv h he
theorem escape_val : 0 ≤ (escapeS s st).1 ∧ (escapeS s st).1 < 256 := by
  unfold escapeS
  split
  · exact ⟨(by decide : (0 : Int) ≤ 10), (by decide : (10 : Int) < 256)⟩
  split
  · exact ⟨(by decide : (0 : Int) ≤ 9), (by decide : (9 : Int) < 256)⟩
  split
  · have h1 := digit_range s st.adv
    have h2 := digit_range s (digitS s st.adv).2
    dsimp only
    omega
  split
  · exact gb_range s st.at_
  · exact ⟨Int.le_refl 0, (by decide : (0 : Int) < 256)⟩
theorem item_val : 0 ≤ (itemS s st).1 ∧ (itemS s st).1 < 256 := by
  unfold itemS
  split
  · exact escape_val
  split
  · exact gb_range s st.at_
  · exact ⟨Int.le_refl 0, (by decide : (0 : Int) < 256)⟩
end
theorem row_fr {w w' : World} {b B g : Nat} {t : TypeId} {n : Nat} {f : Nat → Value} (h : w.rowIs b t n f) (hf : Fr B g w w') (h1 : b < B) (h2 : b ≠ g) : w'.rowIs b t n f := h.of_block (hf.block b h1 h2)
section
variable (R : Nat) (s : ByteArray) (lv : Value) (st : Sc) (w : World)
set_option maxHeartbeats 1000000 in
theorem item_any (h : RdB w R s lv st) : Calls Tryd.prog 74 #[.pointer (some ⟨R, 0, none⟩)] w fun x w' => x = .returned (.int .u8 (itemS s st).1) ∧ RdB w' R s lv (itemS s st).2 ∧ Fr w.heap.size R w w' := by
  unfold itemS
  cases b1 : isB s st 92 with
  | true =>
    rw [if_pos rfl]
    have hM := may_yes R s lv st w 92 h b1
    have he := (isB_lt b1).1
    have hX := fun w h => escape_any R s lv st.adv w he h
    generalize escapeS s st.adv = d at *
    obtain ⟨a, st1⟩ := d
    clear b1 he
    dsimp only at *
    go_enter Tryd.func74, Tryd.ntmps74
    go_wp2_with fail
    refine hM.mono ?_
    rintro e w1 ⟨rfl, h1, k1⟩
    have hM2 := hX w1 h1
    clear hM hX
    go_wp2_with fail
    refine hM2.mono ?_
    rintro e w2 ⟨rfl, h2, k2⟩
    clear hM2
    go_wp2
    go_ret
    exact ⟨rfl, h2, k1.trans (k2.mono k1.size)⟩
  | false =>
    rw [if_neg (by decide)]
    have hM := may_no R s lv st w 92 h b1
    clear b1
    by_cases he : st.e = 0
    · by_cases hl : st.at_ < s.size
      · have hd : decide (s.size ≤ st.at_) = false := decide_eq_false (by omega)
        have hidx := fun W => idx_run s st.at_ hl W
        have hib := fun W => ib54 inS (gb s st.at_) W
        have hix := ix_in (gb_range s st.at_).1 (gb_range s st.at_).2
        have hw : IntKind.i64.wrap ((st.at_ : Int) + 1) = ((st.at_ + 1 : Nat) : Int) := by rw [IntKind.wrap_i64]; have := h.hsz; omega
        have hm2 : IntKind.i64.wrap (((st.at_ + 1 : Nat) : Int) - 1) = (st.at_ : Int) := by rw [IntKind.wrap_i64]; have := h.hsz; omega
        cases hc : inC (gb s st.at_) with
        | false =>
          rw [if_pos ⟨he, hl, rfl⟩]
          rw [hc] at hix
          have hlt : decide (ixB inS (gb s st.at_) ≥ 0) = false := hix
          have hlt2 : decide (0 ≤ ixB inS (gb s st.at_)) = false := hix
          generalize ixB inS (gb s st.at_) = k at *
          generalize gb s st.at_ = c at *
          obtain ⟨p, hp⟩ : ∃ p : Nat, p = st.at_ + 1 := ⟨_, rfl⟩
          rw [← hp] at hw hm2
          have hpl : p ≤ s.size := by omega
          have hst : (⟨p, st.pl, st.e⟩ : Sc) = st.adv := by rw [hp]; rfl
          have HST := Lib.hid hst
          clear hix hc hp hst
          go_enter Tryd.func74, Tryd.ntmps74
          go_wp2_with fail
          refine hM.mono ?_
          rintro e w3 ⟨rfl, h3, k3⟩
          clear hM
          obtain ⟨c0, c1, c2, c3, c4⟩ := h3.cells
          rw [he] at c4
          have hE := fun n => end_any R s lv st (w3.drewN n) (h3.drewN n)
          simp only [hd] at hE
          clear hd
          go_wp2
          go_quiet (first | (go_at_call 22; exact Calls.quiet_of (hE _)) | (go_at_call 30; exact Calls.quiet_of_same ((hib _).mono fun _ _ h => ⟨h.1, h.2.symm⟩)))
          have h2 := h3.drewN nq
          have h4 := h2.at_ p hpl
          have k4 := (k3.trans (fr_drewN' _ R w3 nq)).trans ((fr_set (w3.drewN nq) R 1 (.int .i64 (p : Int))).mono k3.size)
          obtain ⟨d0, d1, d2, d3, d4⟩ := h2.cells
          obtain ⟨f0, f1, f2, f3, f4⟩ := h2.froz
          obtain ⟨g0, g1, g2, g3, g4⟩ := h4.cells
          clear hE c0 c1 c2 c3 c4 h2 hib
          generalize w3.drewN nq = w4 at *
          go_wp2_with fail
          clear d0 d1 d2 d3 d4
          generalize w4.setCell ⟨R, 1, none⟩ (.int .i64 (p : Int)) = w5 at *
          go_quiet (fail)
          go_wp2
          go_ret
          refine ⟨rfl, ?_, k4.trans (fr_drewN' _ _ _ _)⟩
          rw [← HST.out]
          exact h4.drewN _
        | true =>
          rw [if_neg (fun a => by cases a.2.2)]
          rw [hc] at hix
          have hlt : decide (ixB inS (gb s st.at_) ≥ 0) = true := hix
          have hlt2 : decide (0 ≤ ixB inS (gb s st.at_)) = true := hix
          generalize ixB inS (gb s st.at_) = k at *
          generalize gb s st.at_ = c at *
          clear hix hc hw hm2
          go_enter Tryd.func74, Tryd.ntmps74
          go_wp2_with fail
          refine hM.mono ?_
          rintro e w3 ⟨rfl, h3, k3⟩
          clear hM
          obtain ⟨c0, c1, c2, c3, c4⟩ := h3.cells
          rw [he] at c4
          have hE := fun n => end_any R s lv st (w3.drewN n) (h3.drewN n)
          have hF := fun n => fail_any R s lv st (w3.drewN n) st.at_ 2 (h3.drewN n)
          simp only [hd] at hE
          clear hd
          go_wp2
          go_quiet (first | (go_at_call 22; exact Calls.quiet_of (hE _)) | (go_at_call 30; exact Calls.quiet_of_same ((hib _).mono fun _ _ h => ⟨h.1, h.2.symm⟩)))
          go_wp2_with fail
          refine (hF _).mono ?_
          rintro e w4 ⟨rfl, h4, k4⟩
          clear hE hF hib
          go_wp2
          go_ret
          exact ⟨rfl, h4, (k3.trans (fr_drewN' _ R w3 nq)).trans (k4.mono k3.size)⟩
      · rw [if_neg (fun a => hl a.2.1)]
        have hd : decide (s.size ≤ st.at_) = true := decide_eq_true (by omega)
        go_enter Tryd.func74, Tryd.ntmps74
        go_wp2_with fail
        refine hM.mono ?_
        rintro e w3 ⟨rfl, h3, k3⟩
        clear hM
        obtain ⟨c0, c1, c2, c3, c4⟩ := h3.cells
        rw [he] at c4
        have hE := fun n => end_any R s lv st (w3.drewN n) (h3.drewN n)
        have hF := fun n => fail_any R s lv st (w3.drewN n) st.at_ 2 (h3.drewN n)
        simp only [hd] at hE
        clear hd
        go_wp2
        go_quiet ((go_at_call 22; exact Calls.quiet_of (hE _)))
        go_wp2_with fail
        refine (hF _).mono ?_
        rintro e w4 ⟨rfl, h4, k4⟩
        clear hE hF
        go_wp2
        go_ret
        exact ⟨rfl, h4, (k3.trans (fr_drewN' _ R w3 nq)).trans (k4.mono k3.size)⟩
    · rw [if_neg (fun a => he a.1)]
      have hz : (st.e != 0) = true := by simp [he]
      go_enter Tryd.func74, Tryd.ntmps74
      go_wp2_with fail
      refine hM.mono ?_
      rintro e w3 ⟨rfl, h3, k3⟩
      clear hM
      obtain ⟨c0, c1, c2, c3, c4⟩ := h3.cells
      have hF := fun n => fail_any R s lv st (w3.drewN n) st.at_ 2 (h3.drewN n)
      go_wp2
      go_quiet (fail)
      go_wp2_with fail
      refine (hF _).mono ?_
      rintro e w4 ⟨rfl, h4, k4⟩
      clear hF
      go_wp2
      go_ret
      exact ⟨rfl, h4, (k3.trans (fr_drewN' _ R w3 nq)).trans (k4.mono k3.size)⟩
/-- A class's value. -/
abbrev cV (f : Nat → Bool) : Value := .agg #[.int .u64 (clsOf f 0), .int .u64 (clsOf f 1), .int .u64 (clsOf f 2), .int .u64 (clsOf f 3)]
set_option maxHeartbeats 1000000 in
theorem items_any (h : RdB w R s lv st) : Calls Tryd.prog 59 #[.pointer (some ⟨R, 0, none⟩)] w fun x w' => x = .returned (cV (inR (itemsS s st).1.1 (itemsS s st).1.2)) ∧ RdB w' R s lv (itemsS s st).2 ∧ Fr w.heap.size R w w' := by
  have hlt := h.lt
  obtain ⟨w0, hw0⟩ : ∃ w0, w0 = w.alloc (.cells #[.int .u64 0, .int .u64 0, .int .u64 0, .int .u64 0] 24) := ⟨_, rfl⟩
  have r0 : w0.rowIs w.heap.size 24 4 (fun _ => .int .u64 0) := by rw [hw0]; exact row4_new w (fun _ => .int .u64 0) _
  have k0 : Fr w.heap.size R w w0 := by rw [hw0]; exact (Fr.refl _ _ _).alloc (Nat.le_refl _) _
  have h0 : RdB w0 R s lv st := by rw [hw0]; exact h.below (box_belowS _ _)
  have hGR : w.heap.size ≠ R := by omega
  have hG0 : w.heap.size < w0.heap.size := r0.lt
  have hGw : w.heap.size ≤ w.heap.size := Nat.le_refl _
  have hI := item_any R s lv st w0 h0
  have v1 := item_val (s := s) (st := st)
  unfold itemsS
  obtain ⟨d, hd⟩ : ∃ d, d = itemS s st := ⟨_, rfl⟩
  rw [← hd] at hI v1 ⊢
  obtain ⟨lo, st1⟩ := d
  clear hd
  dsimp only at *
  -- the end
  have fin : ∀ (w9 : World) (hi : Int), 0 ≤ hi → hi < 256 → Calls Tryd.prog 43 #[.int .u8 lo, .int .u8 hi] w9 fun e w' => e = .returned (cV (inR lo hi)) ∧ Below w9.heap.size w9 w' := fun w9 hi h1 h2 => range_v lo hi v1.1 v1.2 h1 h2 w9
  cases b1 : isB s st1 45 with
  | false =>
    rw [if_neg (by decide)]
    have hfin := fun w9 => fin w9 lo v1.1 v1.2
    clear fin
    generalize inR lo lo = f at *
    go_enter Tryd.func59, Tryd.ntmps59
    go_wp2_with fail
    rw [← hw0]
    refine hI.mono ?_
    rintro e w1 ⟨rfl, h1, k1⟩
    have r1 := row_fr r0 k1 hG0 hGR
    have e1 := k0.trans (k1.mono k0.size)
    obtain ⟨c0, c1, c2, c3, c4⟩ := h1.cells
    clear hI
    go_wp2
    go_quiet (fail)
    have h2 := h1.drewN nq
    have r2 : (w1.drewN nq).rowIs w.heap.size 24 4 (fun _ => .int .u64 0) := r1.of_block rfl
    have e2 := e1.trans (fr_drewN' _ R w1 nq)
    clear c0 c1 c2 c3 c4
    generalize w1.drewN nq = w2 at *
    have hM := may_no R s lv st1 w2 45 h2 b1
    clear b1
    go_wp2_with fail
    refine hM.mono ?_
    rintro e w3 ⟨rfl, h3, k3⟩
    have r3 := row_fr r2 k3 r2.lt hGR
    have e3 := e2.trans (k3.mono e2.size)
    have hX := hfin w3
    clear hM hfin
    go_wp2_with fail
    refine hX.mono ?_
    rintro e w4 ⟨rfl, b4⟩
    have r4 := row_below r3 b4
    have h4 := h3.below b4
    have e4 := e3.trans (Fr.of_below b4 e3.size)
    obtain ⟨q0, q1, q2, q3, f0, f1, f2, f3⟩ := row4 r4
    clear hX
    go_wp2
    refine post_row4 (t := 2) (T := 24) (b := w.heap.size) (f := fun j => .int .u64 (clsOf f j)) Tryd.results59 rfl (row4_set r4 (fun j => .int .u64 (clsOf f j))) Tryd.underlying24 (by kernel_rfl) rfl ?_
    refine ⟨rfl, ?_, ?_⟩
    · exact (((h4.keep (Below.heap_setCell _ _ _ _ hGR.symm)).keep (Below.heap_setCell _ _ _ _ hGR.symm)).keep (Below.heap_setCell _ _ _ _ hGR.symm)).keep (Below.heap_setCell _ _ _ _ hGR.symm)
    · exact (((e4.setCell (p := ⟨w.heap.size, 0, none⟩) (.inl hGw) _).setCell (p := ⟨w.heap.size, 1, none⟩) (.inl hGw) _).setCell (p := ⟨w.heap.size, 2, none⟩) (.inl hGw) _).setCell (p := ⟨w.heap.size, 3, none⟩) (.inl hGw) _
  | true =>
    rw [if_pos rfl]
    have v2 := item_val (s := s) (st := st1.adv)
    have hI2 := fun w h => item_any R s lv st1.adv w h
    obtain ⟨d, hd⟩ : ∃ d, d = itemS s st1.adv := ⟨_, rfl⟩
    rw [← hd] at hI2 v2 ⊢
    obtain ⟨hi, st2⟩ := d
    clear hd
    dsimp only at *
    have hfin := fun w9 => fin w9 hi v2.1 v2.2
    clear fin
    -- behind both items, st3 is reached: the class is made
    generalize inR lo hi = f at *
    by_cases hgt : lo > hi
    · rw [if_pos hgt]
      go_enter Tryd.func59, Tryd.ntmps59
      go_wp2_with fail
      rw [← hw0]
      refine hI.mono ?_
      rintro e w1 ⟨rfl, h1, k1⟩
      have r1 := row_fr r0 k1 hG0 hGR
      have e1 := k0.trans (k1.mono k0.size)
      obtain ⟨c0, c1, c2, c3, c4⟩ := h1.cells
      clear hI
      go_wp2
      go_quiet (fail)
      have h2 := h1.drewN nq
      have r2 : (w1.drewN nq).rowIs w.heap.size 24 4 (fun _ => .int .u64 0) := r1.of_block rfl
      have e2 := e1.trans (fr_drewN' _ R w1 nq)
      clear c0 c1 c2 c3 c4
      generalize w1.drewN nq = w2 at *
      have hM := may_yes R s lv st1 w2 45 h2 b1
      clear b1
      go_wp2_with fail
      refine hM.mono ?_
      rintro e w3 ⟨rfl, h3, k3⟩
      have r3 := row_fr r2 k3 r2.lt hGR
      have e3 := e2.trans (k3.mono e2.size)
      have hX := hI2 w3 h3
      clear hM hI2
      go_wp2_with fail
      refine hX.mono ?_
      rintro e w4 ⟨rfl, h4, k4⟩
      have r4 := row_fr r3 k4 r3.lt hGR
      have e4 := e3.trans (k4.mono e3.size)
      have hF := fail_any R s lv st2 w4 st1.at_ 2 h4
      clear hX
      go_wp2_with fail
      refine hF.mono ?_
      rintro e w5 ⟨rfl, h5, k5⟩
      have r5 := row_fr r4 k5 r4.lt hGR
      have e5 := e4.trans (k5.mono e4.size)
      have hX := hfin w5
      clear hF hfin
      go_wp2_with fail
      refine hX.mono ?_
      rintro e w6 ⟨rfl, b6⟩
      have r6 := row_below r5 b6
      have h6 := h5.below b6
      have e6 := e5.trans (Fr.of_below b6 e5.size)
      obtain ⟨q0, q1, q2, q3, f0, f1, f2, f3⟩ := row4 r6
      clear hX
      go_wp2
      refine post_row4 (t := 2) (T := 24) (b := w.heap.size) (f := fun j => .int .u64 (clsOf f j)) Tryd.results59 rfl (row4_set r6 (fun j => .int .u64 (clsOf f j))) Tryd.underlying24 (by kernel_rfl) rfl ?_
      refine ⟨rfl, ?_, ?_⟩
      · exact (((h6.keep (Below.heap_setCell _ _ _ _ hGR.symm)).keep (Below.heap_setCell _ _ _ _ hGR.symm)).keep (Below.heap_setCell _ _ _ _ hGR.symm)).keep (Below.heap_setCell _ _ _ _ hGR.symm)
      · exact (((e6.setCell (p := ⟨w.heap.size, 0, none⟩) (.inl hGw) _).setCell (p := ⟨w.heap.size, 1, none⟩) (.inl hGw) _).setCell (p := ⟨w.heap.size, 2, none⟩) (.inl hGw) _).setCell (p := ⟨w.heap.size, 3, none⟩) (.inl hGw) _
    · rw [if_neg hgt]
      go_enter Tryd.func59, Tryd.ntmps59
      go_wp2_with fail
      rw [← hw0]
      refine hI.mono ?_
      rintro e w1 ⟨rfl, h1, k1⟩
      have r1 := row_fr r0 k1 hG0 hGR
      have e1 := k0.trans (k1.mono k0.size)
      obtain ⟨c0, c1, c2, c3, c4⟩ := h1.cells
      clear hI
      go_wp2
      go_quiet (fail)
      have h2 := h1.drewN nq
      have r2 : (w1.drewN nq).rowIs w.heap.size 24 4 (fun _ => .int .u64 0) := r1.of_block rfl
      have e2 := e1.trans (fr_drewN' _ R w1 nq)
      clear c0 c1 c2 c3 c4
      generalize w1.drewN nq = w2 at *
      have hM := may_yes R s lv st1 w2 45 h2 b1
      clear b1
      go_wp2_with fail
      refine hM.mono ?_
      rintro e w3 ⟨rfl, h3, k3⟩
      have r3 := row_fr r2 k3 r2.lt hGR
      have e3 := e2.trans (k3.mono e2.size)
      have hX := hI2 w3 h3
      clear hM hI2
      go_wp2_with fail
      refine hX.mono ?_
      rintro e w5 ⟨rfl, h5, k5⟩
      have r5 := row_fr r3 k5 r3.lt hGR
      have e5 := e3.trans (k5.mono e3.size)
      clear hX
      have hX := hfin w5
      clear hfin
      go_wp2_with fail
      refine hX.mono ?_
      rintro e w6 ⟨rfl, b6⟩
      have r6 := row_below r5 b6
      have h6 := h5.below b6
      have e6 := e5.trans (Fr.of_below b6 e5.size)
      obtain ⟨q0, q1, q2, q3, f0, f1, f2, f3⟩ := row4 r6
      clear hX
      go_wp2
      refine post_row4 (t := 2) (T := 24) (b := w.heap.size) (f := fun j => .int .u64 (clsOf f j)) Tryd.results59 rfl (row4_set r6 (fun j => .int .u64 (clsOf f j))) Tryd.underlying24 (by kernel_rfl) rfl ?_
      refine ⟨rfl, ?_, ?_⟩
      · exact (((h6.keep (Below.heap_setCell _ _ _ _ hGR.symm)).keep (Below.heap_setCell _ _ _ _ hGR.symm)).keep (Below.heap_setCell _ _ _ _ hGR.symm)).keep (Below.heap_setCell _ _ _ _ hGR.symm)
      · exact (((e6.setCell (p := ⟨w.heap.size, 0, none⟩) (.inl hGw) _).setCell (p := ⟨w.heap.size, 1, none⟩) (.inl hGw) _).setCell (p := ⟨w.heap.size, 2, none⟩) (.inl hGw) _).setCell (p := ⟨w.heap.size, 3, none⟩) (.inl hGw) _
end
end Go.Proofs.YtaohlmcgaggoeaaDoor.P
/- The scanner's walks: set. -/
namespace Go.Proofs.YtaohlmcgaggoeaaDoor.P
open Go.RowKit Go.Proofs.YtaohlmcgaggoeaaDoor
set_option linter.unusedVariables false
set_option linter.unusedSimpArgs false
theorem or_cl (f g : Nat → Bool) (j : Nat) (hj : j < 4) : orw (clsOf f j) (clsOf g j) = clsOf (fun q => f q || g q) j := by
  obtain ⟨h1, h2⟩ := or_cls (w64_clsOf f) (w64_clsOf g)
  exact clsOf_eq h1 (fun b hb => by rw [h2 b hb, has_clsOf, has_clsOf]) j hj
theorem not_cl (f : Nat → Bool) (j : Nat) (hj : j < 4) : notw (clsOf f j) = clsOf (fun q => !f q) j := by
  obtain ⟨h1, h2⟩ := not_cls (w64_clsOf f)
  exact clsOf_eq h1 (fun b hb => by rw [h2 b hb, has_clsOf]) j hj
theorem or_c (f g : Nat → Bool) (w : World) : Calls Tryd.prog 60 #[cV f, cV g] w fun e w' => e = .returned (cV (fun q => f q || g q)) ∧ Below w.heap.size w w' := by
  have := or_any (clsOf f) (clsOf g) w
  rw [or_cl f g 0 (by omega), or_cl f g 1 (by omega), or_cl f g 2 (by omega), or_cl f g 3 (by omega)] at this
  exact this
theorem not_c (f : Nat → Bool) (w : World) : Calls Tryd.prog 61 #[cV f] w fun e w' => e = .returned (cV (fun q => !f q)) ∧ Below w.heap.size w w' := by
  have := not_any (clsOf f) w
  rw [not_cl f 0 (by omega), not_cl f 1 (by omega), not_cl f 2 (by omega), not_cl f 3 (by omega)] at this
  exact this
theorem keep4 {w : World} {R : Nat} {s : ByteArray} {lv : Value} {st : Sc} (h : RdB w R s lv st) {G : Nat} (hGR : G ≠ R) (g : Nat → Value) :
    RdB ((((w.setCell ⟨G, 0, none⟩ (g 0)).setCell ⟨G, 1, none⟩ (g 1)).setCell ⟨G, 2, none⟩ (g 2)).setCell ⟨G, 3, none⟩ (g 3)) R s lv st :=
  (((h.keep (Below.heap_setCell _ _ _ _ hGR.symm)).keep (Below.heap_setCell _ _ _ _ hGR.symm)).keep (Below.heap_setCell _ _ _ _ hGR.symm)).keep (Below.heap_setCell _ _ _ _ hGR.symm)
theorem fr4 {B R : Nat} {a w : World} (h : Fr B R a w) {G : Nat} (hG : B ≤ G) (g : Nat → Value) :
    Fr B R a ((((w.setCell ⟨G, 0, none⟩ (g 0)).setCell ⟨G, 1, none⟩ (g 1)).setCell ⟨G, 2, none⟩ (g 2)).setCell ⟨G, 3, none⟩ (g 3)) :=
  (((h.setCell (p := ⟨G, 0, none⟩) (.inl hG) _).setCell (p := ⟨G, 1, none⟩) (.inl hG) _).setCell (p := ⟨G, 2, none⟩) (.inl hG) _).setCell (p := ⟨G, 3, none⟩) (.inl hG) _
/-- Where set's loop is. -/
structure SetI (R : Nat) (s : ByteArray) (lv : Value) (w : World) (C : Nat) (fin : (Nat → Bool) × Sc) (n : Nat) (f : Nat → Bool) (st : Sc) (wr : World) : Prop where
  rd : RdB wr R s lv st
  c : wr.rowIs C 24 4 (fun j => .int .u64 (clsOf f j))
  g : wr.rowIs w.heap.size 24 4 (fun _ => .int .u64 0)
  fr : Fr w.heap.size R w wr
  go : setGo s n f st = fin
  fuel : st.e = 0 → s.size + 2 ≤ st.at_ + n
  pos : 1 ≤ n
section
variable (R : Nat) (s : ByteArray) (lv : Value) (st : Sc) (w : World)
set_option maxHeartbeats 4000000 in
theorem set_any (he : st.e = 0) (h : RdB w R s lv st) : Calls Tryd.prog 44 #[.pointer (some ⟨R, 0, none⟩)] w fun x w' => x = .returned (cV (setS s st).1) ∧ RdB w' R s lv (setS s st).2 ∧ Fr w.heap.size R w w' := by
  have hlt := h.lt
  obtain ⟨w0, hw0⟩ : ∃ w0, w0 = w.alloc (.cells #[.int .u64 0, .int .u64 0, .int .u64 0, .int .u64 0] 24) := ⟨_, rfl⟩
  have r0 : w0.rowIs w.heap.size 24 4 (fun _ => .int .u64 0) := by rw [hw0]; exact row4_new w (fun _ => .int .u64 0) _
  have k0 : Fr w.heap.size R w w0 := by rw [hw0]; exact (Fr.refl _ _ _).alloc (Nat.le_refl _) _
  have h0 : RdB w0 R s lv st := by rw [hw0]; exact h.below (box_belowS _ _)
  have hGR : w.heap.size ≠ R := by omega
  have hM := may_any R s lv st w0 94 h0
  have hat1 := (le_may h.hat 94).2
  have hat2 := (le_items hat1).2
  obtain ⟨neg, hneg⟩ : ∃ b, b = isB s st 94 := ⟨_, rfl⟩
  obtain ⟨st1, hst1⟩ : ∃ b, b = mayS s st 94 := ⟨_, rfl⟩
  have hI := fun w h => items_any R s lv st1 w h
  obtain ⟨d, hd⟩ : ∃ d, d = itemsS s st1 := ⟨_, rfl⟩
  obtain ⟨r, hr⟩ : ∃ r, r = setGo s (s.size + 3) (inR d.1.1 d.1.2) d.2 := ⟨_, rfl⟩
  have hR : setS s st = (if neg = true then (fun q => !r.1 q) else r.1, r.2) := by rw [hr, hd, hst1, hneg]; rfl
  rw [hR]
  rw [← hneg, ← hst1] at hM
  rw [← hd] at hI
  rw [← hst1, ← hd] at hat2
  obtain ⟨⟨lo, hi⟩, st2⟩ := d
  dsimp only at *
  generalize inR lo hi = f0 at *
  have HR := Lib.hid hr
  clear hR hneg hst1 hd hr hat1 he
  go_enter Tryd.func44, Tryd.ntmps44
  go_wp2_with fail
  rw [← hw0]
  refine hM.mono ?_
  rintro e w1 ⟨rfl, h1, k1⟩
  have r1 := row_fr r0 k1 r0.lt hGR
  have e1 := k0.trans (k1.mono k0.size)
  have hI1 := hI w1 h1
  clear hM hI
  go_wp2_with fail
  refine hI1.mono ?_
  rintro e w2 ⟨rfl, h2, k2⟩
  have r2 := row_fr r1 k2 r1.lt hGR
  have e2 := e1.trans (k2.mono e1.size)
  have hC : w2.heap.size ≠ w.heap.size := by have := r2.lt; omega
  have hCR : w2.heap.size ≠ R := by have := h2.lt; omega
  have c3 : (w2.alloc (.cells #[.int .u64 (clsOf f0 0), .int .u64 (clsOf f0 1), .int .u64 (clsOf f0 2), .int .u64 (clsOf f0 3)] 24)).rowIs w2.heap.size 24 4 (fun j => .int .u64 (clsOf f0 j)) := row4_new w2 (fun j => .int .u64 (clsOf f0 j)) _
  have r3 := r2.alloc (.cells #[.int .u64 (clsOf f0 0), .int .u64 (clsOf f0 1), .int .u64 (clsOf f0 2), .int .u64 (clsOf f0 3)] 24)
  have h3 := h2.below (box_belowS w2 (.cells #[.int .u64 (clsOf f0 0), .int .u64 (clsOf f0 1), .int .u64 (clsOf f0 2), .int .u64 (clsOf f0 3)] 24))
  have e3 := e2.alloc e2.size (.cells #[.int .u64 (clsOf f0 0), .int .u64 (clsOf f0 1), .int .u64 (clsOf f0 2), .int .u64 (clsOf f0 3)] 24)
  have hS0 : SetI R s lv w w2.heap.size r (s.size + 3) f0 st2 (w2.alloc (.cells #[.int .u64 (clsOf f0 0), .int .u64 (clsOf f0 1), .int .u64 (clsOf f0 2), .int .u64 (clsOf f0 3)] 24)) :=
    ⟨h3, c3, r3, e3, HR.out.symm, fun _ => by omega, by omega⟩
  have hWC : w.heap.size ≤ w2.heap.size := e2.size
  clear hI1 r1 e1 r2 e2 c3 r3 h3 e3 r0 k0 h0 k1 k2 h1 h2
  go_wp2
  go_loopg [] (s.size + 3) (fun gg wr => ∃ n f st1, n + 1 ≤ gg ∧ SetI R s lv w w2.heap.size r (n + 1) f st1 wr)
  case atStart => exact ⟨s.size + 2, f0, st2, by omega, hS0⟩
  case round =>
    obtain ⟨n, f, stq, hgg, hS⟩ := hrel
    clear hS0
    by_cases hq : stq.e = 0
    · have hgo := hS.go
      rw [setGo, if_pos hq] at hgo
      have hfu := hS.fuel hq
      have hatq := hS.rd.hat
      obtain ⟨c0, c1, c2, c3, c4⟩ := hS.rd.cells
      rw [hq] at c4
      cases b1 : isB s stq 93 with
      | true =>
        rw [b1, if_pos rfl] at hgo
        have HE := Lib.hid hgo.symm
        have hM := may_yes R s lv stq wr 93 hS.rd b1
        clear b1 hgo hfu
        cases neg with
        | true =>
          go_wp2_with fail
          refine hM.mono ?_
          rintro e wE ⟨rfl, hdE, kE⟩
          have hcE := row_fr hS.c kE hS.c.lt hCR
          have hgE := row_fr hS.g kE hS.g.lt hGR
          have heE := hS.fr.trans (kE.mono hS.fr.size)
          clear hM hS
          obtain ⟨c0, c1, c2, c3, _⟩ := row4 hcE
          have hN := not_c f wE
          go_wp2_with fail
          refine hN.mono ?_
          rintro e w9 ⟨rfl, b9⟩
          have g9 := row_below hgE b9
          have d9 := hdE.below b9
          have e9 := heE.trans (Fr.of_below b9 heE.size)
          obtain ⟨q0, q1, q2, q3, f0', f1', f2', f3'⟩ := row4 g9
          clear hN c0 c1 c2 c3
          go_wp2
          refine post_row4 (t := 2) (T := 24) (b := w.heap.size) (f := fun j => .int .u64 (clsOf (fun q => !f q) j)) Tryd.results44 rfl (row4_set g9 (fun j => .int .u64 (clsOf (fun q => !f q) j))) Tryd.underlying24 (by kernel_rfl) rfl ?_
          refine ⟨?_, ?_, fr4 e9 (Nat.le_refl _) (fun j => .int .u64 (clsOf (fun q => !f q) j))⟩
          · rw [HE.out]
          · rw [HE.out]; exact keep4 d9 hGR (fun j => .int .u64 (clsOf (fun q => !f q) j))
        | false =>
          go_wp2_with fail
          refine hM.mono ?_
          rintro e wE ⟨rfl, hdE, kE⟩
          have hcE := row_fr hS.c kE hS.c.lt hCR
          have hgE := row_fr hS.g kE hS.g.lt hGR
          have heE := hS.fr.trans (kE.mono hS.fr.size)
          clear hM hS
          obtain ⟨c0, c1, c2, c3, _⟩ := row4 hcE
          obtain ⟨q0, q1, q2, q3, f0', f1', f2', f3'⟩ := row4 hgE
          go_wp2
          refine post_row4 (t := 2) (T := 24) (b := w.heap.size) (f := fun j => .int .u64 (clsOf f j)) Tryd.results44 rfl (row4_set hgE (fun j => .int .u64 (clsOf f j))) Tryd.underlying24 (by kernel_rfl) rfl ?_
          refine ⟨?_, ?_, fr4 heE (Nat.le_refl _) (fun j => .int .u64 (clsOf f j))⟩
          · rw [HE.out]
          · rw [HE.out]; exact keep4 hdE hGR (fun j => .int .u64 (clsOf f j))
      | false =>
        rw [b1, if_neg (by decide)] at hgo
        have hM := may_no R s lv stq wr 93 hS.rd b1
        have hI := fun w h => items_any R s lv stq w h
        have hadv := fun he' => items_adv (s := s) (st := stq) hatq he'
        have hle := le_items (s := s) (st := stq) hatq
        obtain ⟨d, hd⟩ : ∃ d, d = itemsS s stq := ⟨_, rfl⟩
        rw [← hd] at hI hgo hadv hle
        obtain ⟨⟨lo', hi'⟩, st3⟩ := d
        dsimp only at *
        obtain ⟨f2, hf2⟩ : ∃ f2, f2 = inR lo' hi' := ⟨_, rfl⟩
        rw [← hf2] at hI hgo
        have HGO := Lib.hid hgo
        clear b1 hgo hd hf2
        go_wp2_with fail
        refine hM.mono ?_
        rintro e w3 ⟨rfl, h3, k3⟩
        have cC := row_fr hS.c k3 hS.c.lt hCR
        have gC := row_fr hS.g k3 hS.g.lt hGR
        have eC := hS.fr.trans (k3.mono hS.fr.size)
        clear hM hS c0 c1 c2 c3 c4
        have hI0 := hI w3.drew h3.drew
        have cD : w3.drew.rowIs w2.heap.size 24 4 (fun j => .int .u64 (clsOf f j)) := cC.of_block rfl
        obtain ⟨p0, p1, p2, p3, z0, z1, z2, z3⟩ := row4 cD
        obtain ⟨p0', p1', p2', p3', _⟩ := row4 cC
        go_wp2
        go_region_law (first
          | (go_simp; go_at_call 59; refine hI0.mono ?_; rintro e w4 ⟨rfl, h4, k4⟩; have c4 := row_fr cD k4 cD.lt hCR; obtain ⟨s0, s1, s2, s3, _⟩ := row4 c4)
          | (go_simp; go_at_call 60; refine (or_c f f2 _).mono ?_; rintro e w5 ⟨rfl, b5⟩; have c5 := row_below c4 b5; obtain ⟨y0, y1, y2, y3, f0', f1', f2', f3'⟩ := row4 c5))
        all_goals
          have h5 := h4.below b5
          have g5 := row_below (row_fr (gC.of_block rfl : w3.drew.rowIs w.heap.size 24 4 (fun _ => .int .u64 0)) k4 gC.lt hGR) b5
          have e5 := (eC.drew.trans (k4.mono eC.size)).trans (Fr.of_below b5 (Nat.le_trans eC.size k4.size))
          have c6 := row4_set c5 (fun j => .int .u64 (clsOf (fun q => f q || f2 q) j))
          have g6 := row_far4 g5 hC.symm (fun j => .int .u64 (clsOf (fun q => f q || f2 q) j))
          have h6 := keep4 h5 hCR (fun j => .int .u64 (clsOf (fun q => f q || f2 q) j))
          have e6 := fr4 e5 hWC (fun j => .int .u64 (clsOf (fun q => f q || f2 q) j))
          clear p0 p1 p2 p3 p0' p1' p2' p3' s0 s1 s2 s3 y0 y1 y2 y3
          go_wp2
          obtain ⟨m, hm⟩ : ∃ m, n = m + 1 := ⟨n - 1, by omega⟩
          go_roundg n
          case measure => omega
          case rel =>
            have hgo2 := HGO.out
            rw [hm] at hgo2
            exact ⟨m, _, st3, by omega, h6, c6, g6, e6, hgo2, fun he3 => by have := (hadv he3).1; omega, by omega⟩
    · have hgo := hS.go
      rw [setGo, if_neg hq] at hgo
      have HE := Lib.hid hgo.symm
      have hz : (stq.e == 0) = false := by simp [hq]
      have hdE := hS.rd
      have hcE := hS.c
      have hgE := hS.g
      have heE := hS.fr
      obtain ⟨a0, a1, a2, a3, a4⟩ := hS.rd.cells
      obtain ⟨wE, hwE⟩ : ∃ wE, wE = wr := ⟨_, rfl⟩
      clear hgo hq hS
      subst hwE
      cases neg with
      | true =>
        skip
        obtain ⟨c0, c1, c2, c3, _⟩ := row4 hcE
        have hN := not_c f wE
        go_wp2_with fail
        refine hN.mono ?_
        rintro e w9 ⟨rfl, b9⟩
        have g9 := row_below hgE b9
        have d9 := hdE.below b9
        have e9 := heE.trans (Fr.of_below b9 heE.size)
        obtain ⟨q0, q1, q2, q3, f0', f1', f2', f3'⟩ := row4 g9
        clear hN c0 c1 c2 c3
        go_wp2
        refine post_row4 (t := 2) (T := 24) (b := w.heap.size) (f := fun j => .int .u64 (clsOf (fun q => !f q) j)) Tryd.results44 rfl (row4_set g9 (fun j => .int .u64 (clsOf (fun q => !f q) j))) Tryd.underlying24 (by kernel_rfl) rfl ?_
        refine ⟨?_, ?_, fr4 e9 (Nat.le_refl _) (fun j => .int .u64 (clsOf (fun q => !f q) j))⟩
        · rw [HE.out]
        · rw [HE.out]; exact keep4 d9 hGR (fun j => .int .u64 (clsOf (fun q => !f q) j))
      | false =>
        skip
        obtain ⟨c0, c1, c2, c3, _⟩ := row4 hcE
        obtain ⟨q0, q1, q2, q3, f0', f1', f2', f3'⟩ := row4 hgE
        go_wp2
        refine post_row4 (t := 2) (T := 24) (b := w.heap.size) (f := fun j => .int .u64 (clsOf f j)) Tryd.results44 rfl (row4_set hgE (fun j => .int .u64 (clsOf f j))) Tryd.underlying24 (by kernel_rfl) rfl ?_
        refine ⟨?_, ?_, fr4 heE (Nat.le_refl _) (fun j => .int .u64 (clsOf f j))⟩
        · rw [HE.out]
        · rw [HE.out]; exact keep4 hdE hGR (fun j => .int .u64 (clsOf f j))
end
end Go.Proofs.YtaohlmcgaggoeaaDoor.P
/- The scanner's walks: number, times. -/
namespace Go.Proofs.YtaohlmcgaggoeaaDoor.P
open Go.RowKit Go.Proofs.YtaohlmcgaggoeaaDoor
set_option linter.unusedVariables false
set_option linter.unusedSimpArgs false
attribute [local go_sem ↓] idxG
theorem numGo_stop {s : ByteArray} {a : Nat} (k : Nat) (n : Int) (h : ¬ digC s a) : numGo s k n a = (n, a) := by
  cases k with
  | zero => rfl
  | succ k => rw [numGo, if_neg h]
section
variable (R : Nat) (s : ByteArray) (lv : Value) (st : Sc) (w : World)
set_option maxHeartbeats 4000000 in
theorem number_any (h : RdB w R s lv st) : Calls Tryd.prog 71 #[.pointer (some ⟨R, 0, none⟩)] w fun x w' => x = .returned (.int .i64 (numberS s st).1) ∧ RdB w' R s lv (numberS s st).2 ∧ Fr w.heap.size R w w' := by
  obtain ⟨c0, c1, c2, c3, c4⟩ := h.cells
  have hat := h.hat
  have hsz := h.hsz
  by_cases he : st.e = 0
  · unfold numberS
    rw [if_pos he]
    obtain ⟨fin, hfin⟩ : ∃ fin, fin = numGo s (s.size - st.at_) 0 st.at_ := ⟨_, rfl⟩
    rw [← hfin]
    have HFIN := Lib.hid hfin
    obtain ⟨from_, hfrom⟩ : ∃ a, a = st.at_ := ⟨_, rfl⟩
    have hst : st = ⟨from_, st.pl, 0⟩ := by cases st; simp_all
    have h' : RdB w R s lv ⟨from_, st.pl, 0⟩ := by rw [← hst]; exact h
    generalize st.pl = pl at *
    have hfr : from_ ≤ s.size := by omega
    rw [← hfrom] at c1 ⊢
    rw [he] at c4
    have HFIN2 : Hid (fin = numGo s (s.size - from_) 0 from_) := by rw [hfrom]; exact hfin
    clear hst h hfin hfrom HFIN hat
    go_enter Tryd.func71, Tryd.ntmps71
    go_wp2
    go_loopg [4] s.size (fun gg nv wr => ∃ (n : Int) (a : Nat), nv = .int .i64 n ∧ 0 ≤ n ∧ n ≤ 2147483648 ∧ from_ ≤ a ∧ a ≤ s.size ∧ s.size - a ≤ gg ∧ RdB wr R s lv ⟨a, pl, 0⟩ ∧ Fr w.heap.size R w wr ∧ Hid (numGo s (s.size - a) n a = fin))
    case atStart => exact ⟨0, from_, rfl, by omega, by omega, by omega, hfr, by omega, h', Fr.refl _ _ _, HFIN2.out.symm⟩
    case round =>
      obtain ⟨n, a, rfl, n0, n1, a0, a1, hgg, hr, hf, hG⟩ := hrel
      clear c0 c1 c2 c3 c4 h'
      obtain ⟨c0, c1, c2, c3, c4⟩ := hr.cells
      have hE := fun n => end_any R s lv _ (wr.drewN n) (hr.drewN n)
      dsimp only at c1 c3 c4 hE
      by_cases hl : a < s.size
      · have hd : decide (s.size ≤ a) = false := decide_eq_false (by omega)
        simp only [hd] at hE
        have hidx := fun W => idx_run s a hl W
        have hgr := gb_range s a
        by_cases hg : digC s a
        · obtain ⟨_, g1, g2⟩ := hg
          have hx1 : decide (gb s a ≥ 48) = true := decide_eq_true g1
          have hx2 : decide (gb s a ≤ 57) = true := decide_eq_true g2
          have hx3 : decide (48 ≤ gb s a) = true := decide_eq_true g1
          have hG2 : Hid (numGo s (s.size - (a + 1)) (min (10 * n + (gb s a - 48)) 2147483648) (a + 1) = fin) := by
            have := hG.out
            obtain ⟨m, hm⟩ : ∃ m, s.size - a = m + 1 := ⟨s.size - a - 1, by omega⟩
            rw [hm, numGo, if_pos ⟨hl, g1, g2⟩] at this
            rw [show s.size - (a + 1) = m by omega]
            exact this
          obtain ⟨p, hp⟩ : ∃ p : Nat, p = a + 1 := ⟨_, rfl⟩
          have hw : IntKind.i64.wrap ((a : Int) + 1) = (p : Int) := by rw [IntKind.wrap_i64]; omega
          rw [← hp] at hG2
          obtain ⟨c, hc⟩ : ∃ c, c = gb s a := ⟨_, rfl⟩
          rw [← hc] at hG2 g1 g2 hx1 hx2 hx3 hgr hidx
          obtain ⟨q, hq⟩ : ∃ q, q = min (10 * n + (c - 48)) 2147483648 := ⟨_, rfl⟩
          rw [← hq] at hG2
          have hw1 : IntKind.u8.wrap (c - 48) = c - 48 := by rw [IntKind.wrap_u8]; omega
          have hw2 : IntKind.i64.wrap (10 * n + (c - 48)) = 10 * n + (c - 48) := by rw [IntKind.wrap_i64]; omega
          have hw3 : IntKind.i64.wrap (10 * n) = 10 * n := by rw [IntKind.wrap_i64]; omega
          have hw4 : IntKind.i64.wrap (c - 48) = c - 48 := by rw [IntKind.wrap_i64]; omega
          have hpl : p ≤ s.size := by omega
          have hq0 : 0 ≤ q ∧ q ≤ 2147483648 := by omega
          have HQ := Lib.hid hq
          have HP := Lib.hid hp
          clear hc hG hp hq hd hgr
          go_wp2
          go_quiet ((go_at_call 22; exact Calls.quiet_of (hE _)))
          have h2 := hr.drewN nq
          have k2 := hf.trans (fr_drewN' _ R wr nq)
          obtain ⟨d0, d1, d2, d3, d4⟩ := h2.cells
          dsimp only at d1 d3 d4
          obtain ⟨f0, f1, f2, f3, f4⟩ := h2.froz
          clear hE c0 c1 c2 c3 c4 hr
          generalize wr.drewN nq = w2 at *
          have key : ∀ m : Nat, RdB (((w2.drewN m).setCell ⟨R, 1, none⟩ (.int .i64 (p : Int)))) R s lv ⟨p, pl, 0⟩ := fun m => (h2.drewN m).at_ p hpl
          have key2 : ∀ m : Nat, Fr w.heap.size R w ((w2.drewN m).setCell ⟨R, 1, none⟩ (.int .i64 (p : Int))) := fun m => (k2.trans (fr_drewN' _ R w2 m)).trans ((fr_set _ R 1 _).mono k2.size)
          have KEY := Lib.hid key
          have KEY2 := Lib.hid key2
          clear key key2 h2 k2
          by_cases hmin : 2147483648 < 10 * n + (c - 48)
          · have hmd : decide (2147483648 < 10 * n + (c - 48)) = true := decide_eq_true hmin
            go_wp2
            go_quiet (fail)
            go_wp2
            go_roundg (s.size - p)
            case measure => have := HP.out; omega
            case rel => exact ⟨q, p, by rw [HQ.out]; congr 1; omega, hq0.1, hq0.2, by have := HP.out; omega, hpl, Nat.le_refl _, KEY.out _, KEY2.out _, hG2⟩
          · have hmd : decide (2147483648 < 10 * n + (c - 48)) = false := decide_eq_false hmin
            go_wp2
            go_quiet (fail)
            go_wp2
            go_roundg (s.size - p)
            case measure => have := HP.out; omega
            case rel => exact ⟨q, p, by rw [HQ.out]; congr 1; omega, hq0.1, hq0.2, by have := HP.out; omega, hpl, Nat.le_refl _, KEY.out _, KEY2.out _, hG2⟩
        · have HFE : Hid (fin = (n, a)) := by have := hG.out; rw [numGo_stop _ _ hg] at this; exact this.symm
          clear hG
          by_cases g1 : 48 ≤ gb s a
          · have g2 : ¬ gb s a ≤ 57 := fun g2 => hg ⟨hl, g1, g2⟩
            have hx1 : decide (gb s a ≥ 48) = true := decide_eq_true g1
            have hx2 : decide (gb s a ≤ 57) = false := decide_eq_false g2
            have hx3 : decide (48 ≤ gb s a) = true := decide_eq_true g1
            generalize gb s a = c at *
            clear hg hgr hd g1 g2
            go_wp2
            go_quiet ((go_at_call 22; exact Calls.quiet_of (hE _)))
            have h2 := hr.drewN nq
            have k2 := hf.trans (fr_drewN' _ R wr nq)
            obtain ⟨d0, d1, d2, d3, d4⟩ := h2.cells
            dsimp only at d1 d3 d4
            clear hE c0 c1 c2 c3 c4 hr hf
            generalize wr.drewN nq = w2 at *
            have hfe : fin = (n, a) := HFE.out
            subst hfe
            by_cases hfa : a = from_
            · subst hfa
              have hF := fail_any R s lv _ w2 a 2 h2
              clear h2
              go_wp2_with fail
              refine hF.mono ?_
              rintro e w3 ⟨rfl, h3, k3⟩
              clear hF d0 d1 d2 d3 d4
              go_wp2
              go_ret
              refine ⟨rfl, ?_, k2.trans (k3.mono k2.size)⟩
              have e1 : Sc.fail ⟨a, pl, 0⟩ (a : Int) 2 = ⟨a, a, 2⟩ := if_pos rfl
              rw [e1] at h3
              simpa using h3
            · have hfb : ((a : Int) == (from_ : Int)) = false := by simp; omega
              by_cases hbig : n > 2147483647
              · have hF := fail_any R s lv _ w2 from_ 3 h2
                clear h2
                go_wp2_with fail
                refine hF.mono ?_
                rintro e w3 ⟨rfl, h3, k3⟩
                clear hF d0 d1 d2 d3 d4
                go_wp2
                go_ret
                refine ⟨rfl, ?_, k2.trans (k3.mono k2.size)⟩
                have e1 : Sc.fail ⟨a, pl, 0⟩ (from_ : Int) 3 = ⟨a, from_, 3⟩ := if_pos rfl
                rw [e1] at h3
                exact h3
              · go_wp2
                go_ret
                refine ⟨rfl, ?_, k2⟩
                exact h2
          · have hx1 : decide (gb s a ≥ 48) = false := decide_eq_false g1
            have hx3 : decide (48 ≤ gb s a) = false := decide_eq_false g1
            generalize gb s a = c at *
            clear hg hgr hd g1
            go_wp2
            go_quiet ((go_at_call 22; exact Calls.quiet_of (hE _)))
            have h2 := hr.drewN nq
            have k2 := hf.trans (fr_drewN' _ R wr nq)
            obtain ⟨d0, d1, d2, d3, d4⟩ := h2.cells
            dsimp only at d1 d3 d4
            clear hE c0 c1 c2 c3 c4 hr hf
            generalize wr.drewN nq = w2 at *
            have hfe : fin = (n, a) := HFE.out
            subst hfe
            by_cases hfa : a = from_
            · subst hfa
              have hF := fail_any R s lv _ w2 a 2 h2
              clear h2
              go_wp2_with fail
              refine hF.mono ?_
              rintro e w3 ⟨rfl, h3, k3⟩
              clear hF d0 d1 d2 d3 d4
              go_wp2
              go_ret
              refine ⟨rfl, ?_, k2.trans (k3.mono k2.size)⟩
              have e1 : Sc.fail ⟨a, pl, 0⟩ (a : Int) 2 = ⟨a, a, 2⟩ := if_pos rfl
              rw [e1] at h3
              simpa using h3
            · have hfb : ((a : Int) == (from_ : Int)) = false := by simp; omega
              by_cases hbig : n > 2147483647
              · have hF := fail_any R s lv _ w2 from_ 3 h2
                clear h2
                go_wp2_with fail
                refine hF.mono ?_
                rintro e w3 ⟨rfl, h3, k3⟩
                clear hF d0 d1 d2 d3 d4
                go_wp2
                go_ret
                refine ⟨rfl, ?_, k2.trans (k3.mono k2.size)⟩
                have e1 : Sc.fail ⟨a, pl, 0⟩ (from_ : Int) 3 = ⟨a, from_, 3⟩ := if_pos rfl
                rw [e1] at h3
                exact h3
              · go_wp2
                go_ret
                refine ⟨rfl, ?_, k2⟩
                exact h2
      · have HFE : Hid (fin = (n, a)) := by have := hG.out; rw [numGo_stop _ _ (fun h => hl h.1)] at this; exact this.symm
        have hd : decide (s.size ≤ a) = true := decide_eq_true (by omega)
        simp only [hd] at hE
        clear hd hG
        go_wp2
        go_quiet ((go_at_call 22; exact Calls.quiet_of (hE _)))
        have h2 := hr.drewN nq
        have k2 := hf.trans (fr_drewN' _ R wr nq)
        obtain ⟨d0, d1, d2, d3, d4⟩ := h2.cells
        dsimp only at d1 d3 d4
        clear hE c0 c1 c2 c3 c4 hr hf
        generalize wr.drewN nq = w2 at *
        have hfe : fin = (n, a) := HFE.out
        subst hfe
        by_cases hfa : a = from_
        · subst hfa
          have hF := fail_any R s lv _ w2 a 2 h2
          clear h2
          go_wp2_with fail
          refine hF.mono ?_
          rintro e w3 ⟨rfl, h3, k3⟩
          clear hF d0 d1 d2 d3 d4
          go_wp2
          go_ret
          refine ⟨rfl, ?_, k2.trans (k3.mono k2.size)⟩
          have e1 : Sc.fail ⟨a, pl, 0⟩ (a : Int) 2 = ⟨a, a, 2⟩ := if_pos rfl
          rw [e1] at h3
          simpa using h3
        · have hfb : ((a : Int) == (from_ : Int)) = false := by simp; omega
          by_cases hbig : n > 2147483647
          · have hF := fail_any R s lv _ w2 from_ 3 h2
            clear h2
            go_wp2_with fail
            refine hF.mono ?_
            rintro e w3 ⟨rfl, h3, k3⟩
            clear hF d0 d1 d2 d3 d4
            go_wp2
            go_ret
            refine ⟨rfl, ?_, k2.trans (k3.mono k2.size)⟩
            have e1 : Sc.fail ⟨a, pl, 0⟩ (from_ : Int) 3 = ⟨a, from_, 3⟩ := if_pos rfl
            rw [e1] at h3
            exact h3
          · go_wp2
            go_ret
            refine ⟨rfl, ?_, k2⟩
            exact h2
  · rw [number_ne he]
    have hz : (st.e == 0) = false := by simp [he]
    obtain ⟨from_, hfrom⟩ : ∃ a, a = st.at_ := ⟨_, rfl⟩
    rw [← hfrom] at c1
    have HFR := Lib.hid hfrom
    clear hfrom
    go_enter Tryd.func71, Tryd.ntmps71
    go_wp2
    go_loopg [4] 0 (fun gg nv wr => wr = w ∧ nv = .int .i64 0)
    case atStart => exact ⟨rfl, rfl⟩
    case round =>
      obtain ⟨rfl, rfl⟩ := hrel
      have hF := fun m => fail_any R s lv st (wr.drewN m) from_ 2 (h.drewN m)
      rw [fail_ne he] at hF
      go_wp2
      go_quiet (fail)
      go_wp2_with fail
      refine (hF _).mono ?_
      rintro e w3 ⟨rfl, h3, k3⟩
      clear hF c0 c1 c2 c3 c4
      go_wp2
      go_ret
      exact ⟨rfl, h3, (fr_drewN' _ R wr nq).trans k3⟩
set_option maxHeartbeats 4000000 in
theorem times_any (h1 : 1 ≤ st.at_) (h : RdB w R s lv st) : Calls Tryd.prog 57 #[.pointer (some ⟨R, 0, none⟩)] w fun x w' => x = .returned (.tuple #[.int .i64 (timesS s st).1.1, .int .i64 (timesS s st).1.2]) ∧ RdB w' R s lv (timesS s st).2 ∧ Fr w.heap.size R w w' := by
  obtain ⟨c0, c1, c2, c3, c4⟩ := h.cells
  have hsz := h.hsz
  have hat := h.hat
  have hw : IntKind.i64.wrap ((st.at_ : Int) - 1) = (st.at_ : Int) - 1 := by rw [IntKind.wrap_i64]; omega
  have hN := number_any R s lv st w h
  unfold timesS
  obtain ⟨d, hd⟩ : ∃ d, d = numberS s st := ⟨_, rfl⟩
  rw [← hd] at hN ⊢
  obtain ⟨lo, st1⟩ := d
  clear hd hat
  dsimp only at hN ⊢
  unfold times2
  cases b1 : isB s st1 44 with
  | false =>
    rw [if_neg (by decide)]
    dsimp only
    have hng : ¬ lo > lo := by omega
    have hz : ¬ (lo ≠ -1 ∧ lo > lo) := fun h => hng h.2
    rw [if_neg hz]
    clear hz
    go_enter Tryd.func57, Tryd.ntmps57
    go_wp2_with fail
    refine hN.mono ?_
    rintro e w1 ⟨rfl, h2, k1⟩
    have hM := may_no R s lv st1 w1 44 h2 b1
    clear hN b1 c0 c1 c2 c3 c4
    go_wp2_with fail
    refine hM.mono ?_
    rintro e wB ⟨rfl, hdB, kB⟩
    have eB := k1.trans (kB.mono k1.size)
    clear hM
    have hU := must_any R s lv st1 wB 125 hdB
    clear hdB
    go_wp2_with fail
    refine hU.mono ?_
    rintro e wE ⟨rfl, hdE, kE⟩
    have eE := eB.trans (kE.mono eB.size)
    clear hU kE
    by_cases hm1 : lo = -1
    · have z1 : (lo != -1) = false := by simp [hm1]
      have HM1 := Lib.hid hm1
      clear hm1
      go_wp2
      refine bodyPost_ret (results_tmp2 rfl _ _ _) rfl ?_
      exact ⟨rfl, hdE, eE⟩
    · have z1 : (lo != -1) = true := by simp [hm1]
      clear hm1
      go_wp2
      refine bodyPost_ret (results_tmp2 rfl _ _ _) rfl ?_
      exact ⟨rfl, hdE, eE⟩
  | true =>
    rw [if_pos rfl]
    cases b2 : isB s st1.adv 125 with
    | true =>
      rw [if_pos rfl]
      dsimp only
      have hz : ¬ ((-1 : Int) ≠ -1 ∧ lo > -1) := fun h => h.1 rfl
      rw [if_neg hz]
      go_enter Tryd.func57, Tryd.ntmps57
      go_wp2_with fail
      refine hN.mono ?_
      rintro e w1 ⟨rfl, h2, k1⟩
      have hM := may_yes R s lv st1 w1 44 h2 b1
      clear hN b1 c0 c1 c2 c3 c4
      go_wp2_with fail
      refine hM.mono ?_
      rintro e w2 ⟨rfl, h3, k2⟩
      have e2 := k1.trans (k2.mono k1.size)
      have hS := is_any R s lv st1.adv w2 125 h3
      rw [b2] at hS
      clear hM b2
      go_wp2_with fail
      refine hS.mono ?_
      rintro e w3 ⟨rfl, m, rfl⟩
      have hdB := h3.drewN m
      have eB := e2.trans (fr_drewN' _ R w2 m)
      clear hS
      generalize w2.drewN m = wB at *
      have hU := must_any R s lv st1.adv wB 125 hdB
      clear hdB
      go_wp2_with fail
      refine hU.mono ?_
      rintro e wE ⟨rfl, hdE, kE⟩
      have eE := eB.trans (kE.mono eB.size)
      clear hU kE
      go_wp2
      refine bodyPost_ret (results_tmp2 rfl _ _ _) rfl ?_
      exact ⟨rfl, hdE, eE⟩
    | false =>
      rw [if_neg (by decide)]
      have hN2 := fun w h => number_any R s lv st1.adv w h
      obtain ⟨d, hd⟩ : ∃ d, d = numberS s st1.adv := ⟨_, rfl⟩
      rw [← hd] at hN2 ⊢
      obtain ⟨hi, stB⟩ := d
      clear hd
      dsimp only at hN2 ⊢
      obtain ⟨fin, hfin⟩ : ∃ fin, fin = (if hi ≠ -1 ∧ lo > hi then (mustS s stB 125).fail ((st.at_ : Int) - 1) 2 else mustS s stB 125) := ⟨_, rfl⟩
      rw [← hfin]
      have HFIN := Lib.hid hfin
      clear hfin
      go_enter Tryd.func57, Tryd.ntmps57
      go_wp2_with fail
      refine hN.mono ?_
      rintro e w1 ⟨rfl, h2, k1⟩
      have hM := may_yes R s lv st1 w1 44 h2 b1
      clear hN b1 c0 c1 c2 c3 c4
      go_wp2_with fail
      refine hM.mono ?_
      rintro e w2 ⟨rfl, h3, k2⟩
      have e2 := k1.trans (k2.mono k1.size)
      have hS := is_any R s lv st1.adv w2 125 h3
      rw [b2] at hS
      clear hM b2
      go_wp2_with fail
      refine hS.mono ?_
      rintro e w3 ⟨rfl, m, rfl⟩
      have h4 := h3.drewN m
      have e4 := e2.trans (fr_drewN' _ R w2 m)
      clear hS
      generalize w2.drewN m = w4 at *
      have hX := hN2 w4 h4
      clear hN2
      go_wp2_with fail
      refine hX.mono ?_
      rintro e wB ⟨rfl, hdB, kB⟩
      have eB := e4.trans (kB.mono e4.size)
      clear hX
      have hU := must_any R s lv stB wB 125 hdB
      clear hdB
      go_wp2_with fail
      refine hU.mono ?_
      rintro e wE ⟨rfl, hdE, kE⟩
      have eE := eB.trans (kE.mono eB.size)
      clear hU kE
      by_cases hm1 : hi = -1
      · have z1 : (hi != -1) = false := by simp [hm1]
        have hz : ¬ (hi ≠ -1 ∧ lo > hi) := fun h => h.1 hm1
        have HM1 := Lib.hid hm1
        have HFE : Hid (fin = mustS s stB 125) := by have := HFIN.out; rw [if_neg hz] at this; exact this
        clear hm1 hz
        go_wp2
        refine bodyPost_ret (results_tmp2 rfl _ _ _) rfl ?_
        exact ⟨rfl, by rw [HFE.out]; exact hdE, eE⟩
      · have z1 : (hi != -1) = true := by simp [hm1]
        by_cases hgt : lo > hi
        · have HFE : Hid (fin = (mustS s stB 125).fail ((st.at_ : Int) - 1) 2) := by have := HFIN.out; rw [if_pos ⟨hm1, hgt⟩] at this; exact this
          have hF := fail_any R s lv _ wE ((st.at_ : Int) - 1) 2 hdE
          clear hm1
          go_wp2_with fail
          refine hF.mono ?_
          rintro e wF ⟨rfl, hdF, kF⟩
          clear hF
          go_wp2
          refine bodyPost_ret (results_tmp2 rfl _ _ _) rfl ?_
          exact ⟨rfl, by rw [HFE.out]; exact hdF, eE.trans (kF.mono eE.size)⟩
        · have HFE : Hid (fin = mustS s stB 125) := by have := HFIN.out; rw [if_neg (fun h => hgt h.2)] at this; exact this
          clear hm1
          go_wp2
          refine bodyPost_ret (results_tmp2 rfl _ _ _) rfl ?_
          exact ⟨rfl, by rw [HFE.out]; exact hdE, eE⟩
end
end Go.Proofs.YtaohlmcgaggoeaaDoor.P
