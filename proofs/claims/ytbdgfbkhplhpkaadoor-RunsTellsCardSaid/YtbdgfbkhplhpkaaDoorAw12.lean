/- Layer 12: what is asked first: one word's text. -/
import Derived.Test.YtbdgfbkhplhpkaaDoorRunV
namespace Go.Proofs.YtbdgfbkhplhpkaaDoor
open Go.RowKit
set_option linter.unusedVariables false
set_option linter.unusedSimpArgs false

theorem small3 (w : World) : Calls Tryd.prog 31 #[.int .i64 3] w fun e w' => e = .returned (.string ⟨#[51]⟩) ∧ Below w.heap.size w w' := by
  go_enter Tryd.func31, Tryd.ntmps31
  go_wp2
  go_ret
  exact ⟨rfl, Below.refl _ _⟩
theorem fmt3i (w : World) : Calls Tryd.prog 25 #[.int .i64 3, .int .i64 10] w fun e w' => e = .returned (.string ⟨#[51]⟩) ∧ Below w.heap.size w w' := by
  go_enter Tryd.func25, Tryd.ntmps25
  go_wp2_with fail
  refine (small3 _).mono ?_
  rintro e w1 ⟨rfl, hb1⟩
  go_wp2
  go_ret
  exact ⟨rfl, hb1⟩
theorem fmt3 (w : World) : Calls Tryd.prog 20 #[.int .i64 3, .int .i64 10] w fun e w' => e = .returned (.string ⟨#[51]⟩) ∧ Below w.heap.size w w' := by
  go_enter Tryd.func20, Tryd.ntmps20
  go_wp2_with fail
  refine (fmt3i _).mono ?_
  rintro e w1 ⟨rfl, hb1⟩
  go_wp2
  go_ret
  exact ⟨rfl, hb1⟩
theorem join1 (s sep : ByteArray) (ad : Addr) (c : Nat) (w : World) (h : w.cell? ad = some (.string s)) : Calls Tryd.prog 21 #[.slice (some ad) 1 c, .string sep] w fun e w' => e = .returned (.string s) ∧ Below w.heap.size w w' := by
  go_enter Tryd.func21, Tryd.ntmps21
  go_wp2
  go_ret
  exact ⟨rfl, Below.refl _ _⟩
def r97 : List Rn := [(97, 3)]
theorem r97_ok : runsOk r97 = true := by
  refine runsOk_yes ⟨fun i hi => ?_, by decide⟩
  have : i = 0 := by simp [r97] at hi; omega
  subst this
  exact ⟨by decide, by decide, fun h => by omega⟩
theorem info97 : (Tryd.prog.info? 9).map (fun i => (i.zero, i.size, i.bytes)) = some (some (.string ⟨#[]⟩), 1, 16) := by kernel_rfl
theorem conv61 (b : Nat) (w : World) (h0 : w.cell? ⟨b, 0, none⟩ = some (.int .u8 54)) (h1 : w.cell? ⟨b, 1, none⟩ = some (.int .u8 49)) :
    (convert 36 9 (.slice (some ⟨b, 0, none⟩) 2 2)).run Tryd.prog w = .ok (.string ⟨#[54, 49]⟩) w := by
  refine run_convert_bytes_back w _ _ _ ⟨b, 0, none⟩ 2 [54, 49] Tryd.underlying36 Tryd.underlying5 Tryd.underlying9 fun j hj => ?_
  match j, hj with
  | 0, _ => exact h0
  | 1, _ => exact h1
attribute [local go_sem ↓] appS
theorem text97 (ad : Addr) (w : World) (h0 : w.cell? ad = some (.int .u8 97)) (h1 : w.cell? ⟨ad.block, ad.off + 1, none⟩ = some (.int .i64 3)) (hr : Rs w (some ad) 1 r97) :
    Calls Tryd.prog 14 #[.slice (some ad) 1 1] w fun e w' => e = .returned (.string ⟨#[54, 49, 42, 51]⟩) ∧ Below w.heap.size w w' := by
  have hf := fun W (h : Rs W (some ad) 1 r97) => formedR_any r97 (fun i => by
    unfold I64
    match i with
    | 0 => decide
    | i + 1 => simp [rT, r97]) (some ad) 1 W h
  rw [r97_ok] at hf
  obtain ⟨i0, hi, hz0, hz1, hz2⟩ := info_parts info97
  go_enter Tryd.func14, Tryd.ntmps14
  go_wp2_with fail
  refine (hf _ hr).mono ?_
  rintro e w1 ⟨rfl, hb1⟩
  have k0 := (hb1.cell (World.block_lt_of_cell? w _ h0)).trans h0
  have k1 := (hb1.cell (World.block_lt_of_cell? w _ h1)).trans h1
  clear hf h0 h1 hr
  go_wp2
  go_loopw [3, 12] (fun out i wr => (i = .int .i64 0 ∧ out = .slice none 0 0 ∧ wr = w1) ∨ (i = .int .i64 1 ∧ ∃ g c, out = .slice (some ⟨g, 0, none⟩) 1 c ∧ wr.cell? ⟨g, 0, none⟩ = some (.string ⟨#[54, 49, 42, 51]⟩) ∧ Below w.heap.size w wr)) (fun _ i _ => 1 - (intOf i).toNat)
  case atStart => exact .inl ⟨rfl, rfl, rfl⟩
  case round =>
    rcases hrel with ⟨rfl, rfl, rfl⟩ | ⟨rfl, g, c, rfl, hc, hb⟩
    · have hba := hb1.alloc hb1.size (.cells #[.int .u8 97, .int .i64 3] 31)
      have hcv : (convert 36 9 (.slice (some ⟨wr.heap.size + 1, 0, none⟩) 2 2)).run Tryd.prog (((wr.alloc (.cells #[.int .u8 97, .int .i64 3] 31)).alloc (.cells #[.int .u8 ((⟨#[48, 49, 50, 51, 52, 53, 54, 55, 56, 57, 97, 98, 99, 100, 101, 102]⟩ : ByteArray)[6]'(by decide)).toNat, .int .u8 ((⟨#[48, 49, 50, 51, 52, 53, 54, 55, 56, 57, 97, 98, 99, 100, 101, 102]⟩ : ByteArray)[1]'(by decide)).toNat] 5)).drew) = .ok (.string ⟨#[54, 49]⟩) (((wr.alloc (.cells #[.int .u8 97, .int .i64 3] 31)).alloc (.cells #[.int .u8 ((⟨#[48, 49, 50, 51, 52, 53, 54, 55, 56, 57, 97, 98, 99, 100, 101, 102]⟩ : ByteArray)[6]'(by decide)).toNat, .int .u8 ((⟨#[48, 49, 50, 51, 52, 53, 54, 55, 56, 57, 97, 98, 99, 100, 101, 102]⟩ : ByteArray)[1]'(by decide)).toNat] 5)).drew) := conv61 _ _ (by
        go_simp
        rfl) (by
        go_simp
        rfl)
      go_wp2_with fail
      go_region
      clear hcv
      all_goals
        go_wp2_with fail
        refine (fmt3 _).mono ?_
        rintro e w2 ⟨rfl, hb2⟩
        have hb5 : Below w.heap.size w w2 := by
          have hx := (hba.alloc (by have := hb1.size; simp; omega) (.cells #[.int .u8 ((⟨#[48, 49, 50, 51, 52, 53, 54, 55, 56, 57, 97, 98, 99, 100, 101, 102]⟩ : ByteArray)[6]'(by decide)).toNat, .int .u8 ((⟨#[48, 49, 50, 51, 52, 53, 54, 55, 56, 57, 97, 98, 99, 100, 101, 102]⟩ : ByteArray)[1]'(by decide)).toNat] 5)).drew
          exact ext_trans hx hb2
        clear hba k0 k1 hb2
        have h2 : w2.ownsRow w.heap.size 9 1 (.slice none 0 0) 0 [] := World.ownsRow_nil _ _ _ _
        obtain ⟨g3, c3, w3, hr3, hq3, hg3⟩ := app_row (P := Tryd.prog) w2 47 9 _ 1 16 Tryd.underlying47 hi hz0 hz1 hz2 rfl (by omega) (.slice none 0 0) 0 [] h2 (by have := hb5.size; omega) [.string ⟨#[54, 49, 42, 51]⟩] rfl (by simp [Value.oneCell']) (by omega) (by omega)
        have hs : (⟨#[54, 49]⟩ : ByteArray) ++ ((⟨#[42]⟩ : ByteArray) ++ (⟨#[51]⟩ : ByteArray)) = ⟨#[54, 49, 42, 51]⟩ := by decide
        go_wp2_with fail
        go_roundw
        case rel =>
          refine .inr ⟨by go_num, g3, c3, rfl, ?_, hb5.grown hg3 (by have := hb5.size; omega) (fun k e => by cases e)⟩
          have k := World.ownsRow.cells hq3 (g := g3) rfl
          exact k 0 _ rfl
        case measure => simp [intOf]
    · go_wp2_with fail
      refine (join1 _ _ _ _ _ hc).mono ?_
      rintro e w2 ⟨rfl, hb2⟩
      go_wp2
      go_ret
      exact ⟨rfl, ext_trans hb hb2⟩
theorem awake12 : True := trivial
end Go.Proofs.YtbdgfbkhplhpkaaDoor
