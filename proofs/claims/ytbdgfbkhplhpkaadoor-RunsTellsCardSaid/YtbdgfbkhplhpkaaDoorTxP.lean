/- The program's Text. -/
import Derived.Test.YtbdgfbkhplhpkaaDoorDig
import Derived.Test.YtbdgfbkhplhpkaaDoorShf
import Derived.WalkSmall
import Derived.Lib.AppendIntMem
namespace Go.Proofs.YtbdgfbkhplhpkaaDoor
open Go.RowKit
set_option linter.unusedVariables false
set_option linter.unusedSimpArgs false
/-- A byte of a string, under a name of its own. -/
def IdxS (t : TypeId) (x i : Value) : Sem Value := Instr.index t x i
theorem idxS (t : TypeId) (x i : Value) : Instr.index t x i = IdxS t x i := rfl
attribute [local go_sem ↓] appS addS idxS

def hexL : List UInt8 := [48, 49, 50, 51, 52, 53, 54, 55, 56, 57, 97, 98, 99, 100, 101, 102]
def hx (n : Nat) : UInt8 := hexL.getD n 0
/-- A run's text. -/
def piece (r : Rn) : List UInt8 := hx (r.1.toNat / 16) :: hx (r.1.toNat % 16) :: (if r.2 = 1 then [] else 42 :: Lib.decDigits r.2.toNat)
theorem idx_hex (q : Nat) (hq : q < 16) (W : World) : (IdxS 9 (.string ⟨#[48, 49, 50, 51, 52, 53, 54, 55, 56, 57, 97, 98, 99, 100, 101, 102]⟩) (.int .u8 (q : Int))).run Tryd.prog W = .ok (.int .u8 ((hx q).toNat : Int)) W := by
  have h := run_index_string (P := Tryd.prog) (w := W) 9 ⟨#[48, 49, 50, 51, 52, 53, 54, 55, 56, 57, 97, 98, 99, 100, 101, 102]⟩ .u8 (q : Int) Tryd.underlying9
  have hs : (⟨#[48, 49, 50, 51, 52, 53, 54, 55, 56, 57, 97, 98, 99, 100, 101, 102]⟩ : ByteArray).size = 16 := rfl
  show (Instr.index _ _ _).run _ _ = _
  rw [h]
  rw [dif_pos ⟨by omega, by rw [hs]; omega⟩]
  match q, hq with
  | 0, _ => rfl
  | 1, _ => rfl
  | 2, _ => rfl
  | 3, _ => rfl
  | 4, _ => rfl
  | 5, _ => rfl
  | 6, _ => rfl
  | 7, _ => rfl
  | 8, _ => rfl
  | 9, _ => rfl
  | 10, _ => rfl
  | 11, _ => rfl
  | 12, _ => rfl
  | 13, _ => rfl
  | 14, _ => rfl
  | 15, _ => rfl
  | q + 16, hq => omega
theorem conv2 (k : Nat) (w : World) (b d : UInt8) (h0 : w.cell? ⟨k, 0, none⟩ = some (.int .u8 (b.toNat : Int))) (h1 : w.cell? ⟨k, 1, none⟩ = some (.int .u8 (d.toNat : Int))) :
    (convert 36 9 (.slice (some ⟨k, 0, none⟩) 2 2)).run Tryd.prog w = .ok (.string ⟨[b, d].toArray⟩) w := by
  refine run_convert_bytes_back w _ _ _ ⟨k, 0, none⟩ 2 [b, d] Tryd.underlying36 Tryd.underlying5 Tryd.underlying9 fun j hj => ?_
  match j, hj with
  | 0, _ => exact h0
  | 1, _ => exact h1
def strs (l : List (List UInt8)) : List Value := l.map fun x => Value.string ⟨x.toArray⟩
theorem strs_length (l : List (List UInt8)) : (strs l).length = l.length := by simp [strs]
theorem text_bad (rs : List Rn) (hT : ∀ i, I64 (rT rs i)) (hbad : ¬ RunsF rs) (A : Option Addr) (c : Nat) (w : World) (hs : Rs w A c rs) :
    Calls Tryd.prog 14 #[.slice A rs.length c] w fun e w' => e = .returned (.string ⟨#[]⟩) ∧ Below w.heap.size w w' := by
  have hcall := fun W (h : Rs W A c rs) => formedR_any rs hT A c W h
  rw [runsOk_no hbad] at hcall
  clear hT hbad
  go_enter Tryd.func14, Tryd.ntmps14
  go_wp2_with fail
  refine (hcall _ hs).mono ?_
  rintro e w1 ⟨rfl, hb1⟩
  clear hcall
  go_wp2
  go_ret
  exact ⟨rfl, hb1⟩
theorem size_bad (rs : List Rn) (hT : ∀ i, I64 (rT rs i)) (hbad : ¬ RunsF rs) (A : Option Addr) (c : Nat) (w : World) (hs : Rs w A c rs) :
    Calls Tryd.prog 11 #[.slice A rs.length c] w fun e w' => e = .returned (.int .i64 0) ∧ Below w.heap.size w w' := by
  have hcall := fun W (h : Rs W A c rs) => formedR_any rs hT A c W h
  rw [runsOk_no hbad] at hcall
  clear hT hbad
  go_enter Tryd.func11, Tryd.ntmps11
  go_wp2_with fail
  refine (hcall _ hs).mono ?_
  rintro e w1 ⟨rfl, hb1⟩
  clear hcall
  go_wp2
  go_ret
  exact ⟨rfl, hb1⟩
theorem tabG : Tryd.prog.globalNamed "internal/strconv.uint64pow10" = some 1 := by kernel_rfl
def Tabs (w : World) : Prop := Lib.TabIs Tryd.prog w "internal/strconv.uint64pow10" .u64 Lib.pow10Tab
theorem Tabs.lt {w : World} (h : Tabs w) : 1 < w.heap.size := by
  have := Lib.TabIs.cell h tabG 0 (by decide)
  exact World.block_lt_of_cell? w _ this
theorem Tabs.below {w w' : World} (h : Tabs w) (hb : Below w.heap.size w w') : Tabs w' := var?_below hb tabG h.lt h
theorem fmt_any (t : Nat) (ht : t ≤ 4611686018427387904) (w : World) (h : Tabs w) : Calls Tryd.prog 20 #[.int .i64 (t : Int), .int .i64 10] w fun e w' => e = .returned (.string ⟨(Lib.decDigits t).toArray⟩) ∧ Below w.heap.size w w' := by
  refine (Tryd.strconv_FormatInt_10 (t : Int) (by omega) (by omega) w h).mono ?_
  rintro e w' ⟨he, k, os, hw⟩
  rw [Lib.itoa_nonneg] at he
  refine ⟨he, ?_⟩
  rw [hw]
  exact Lib.below_grow _ w (Nat.le_refl _) k os
theorem dec_len (t : Nat) (ht : t ≤ 4611686018427387904) : (Lib.decDigits t).length ≤ 21 := by
  have h1 := Lib.itoa_length_le (t : Int) (by omega) (by omega)
  rwa [Lib.itoa_nonneg] at h1
/-- The first k runs' texts, as cells. -/
def ptx (rs : List Rn) (k : Nat) : List Value := strs ((rs.take k).map piece)
theorem ptx_length (rs : List Rn) (k : Nat) (hk : k ≤ rs.length) : (ptx rs k).length = k := by
  unfold ptx
  rw [strs_length, List.length_map, List.length_take]
  omega
theorem piece_len (r : Rn) (h0 : 1 ≤ r.2) (h1 : r.2 ≤ 4611686018427387904) : (piece r).length ≤ 30 := by
  unfold piece
  have := dec_len r.2.toNat (by omega)
  split <;> simp <;> omega
theorem lens_le : ∀ xs : List (List UInt8), (∀ x ∈ xs, x.length ≤ 30) → Lib.lens xs ≤ 30 * xs.length
  | [], _ => by simp [Lib.lens]
  | x :: xs, h => by
    have h1 := lens_le xs (fun y hy => h y (by simp [hy]))
    have h2 := h x (by simp)
    simp only [Lib.lens, List.map_cons, List.sum_cons, List.length_cons] at h1 ⊢
    omega
theorem joinS_any (xs : List (List UInt8)) (v : Value) (base : Nat) (w : World) (h : Ow w base 9 v (strs xs)) (hl : xs.length ≤ 200) (hs : ∀ x ∈ xs, x.length ≤ 30) :
    Calls Tryd.prog 21 #[v, .string ⟨#[32]⟩] w fun e w' => e = .returned (.string ⟨(Lib.join xs [32]).toArray⟩) ∧ Below w.heap.size w w' := by
  cases xs with
  | nil =>
    obtain ⟨A, c, rfl, _, _⟩ := h.sl
    refine (Tryd.strings_Join_none A c ⟨#[32]⟩ w).mono ?_
    rintro e w' ⟨rfl, rfl⟩
    exact ⟨rfl, Below.refl _ _⟩
  | cons x xs =>
    rcases h.2 with ⟨_, h0⟩ | ⟨g, cap, cur, hv, hb, hg, hn, hm, hsz, ht⟩
    · simp [strs] at h0
    · have hcl := World.ownsRow.cells h (g := g) (by rw [hv]; rfl)
      have hlt : g < w.heap.size := by
        rcases Nat.lt_or_ge g w.heap.size with q | q
        · exact q
        · rw [Array.getElem?_eq_none q] at hg; cases hg
      have hmap : ((x :: xs).map fun y => (⟨y.toArray⟩ : ByteArray)).map (·.data.toList) = x :: xs := by
        rw [List.map_map]
        conv => rhs; rw [← List.map_id (x :: xs)]
        apply List.map_congr_left
        intro y _
        simp
      have hJ := Tryd.strings_Join g 0 cap ((x :: xs).map fun y => ⟨y.toArray⟩) ⟨#[32]⟩ w (fun j y hy => by
        have hq : (strs (x :: xs))[j]? = some (.string y) := by
          rw [List.getElem?_map] at hy
          unfold strs
          rw [List.getElem?_map]
          cases hh : (x :: xs)[j]? with
          | none => rw [hh] at hy; cases hy
          | some z => rw [hh] at hy; simp at hy ⊢; rw [hy]
        have := hcl j _ hq
        rwa [Addr.add_lit] at this) hlt (by rw [List.length_map]; omega) (by rw [List.length_map]; rw [strs_length] at hn; exact hn) (by
        rw [hmap]
        show (Lib.join (x :: xs) [32]).length ≤ _
        rw [Lib.join_length]
        have := lens_le (x :: xs) hs
        simp at this hl ⊢
        omega)
      rw [hmap, List.length_map] at hJ
      rw [strs_length] at hv
      rw [hv]
      exact hJ
set_option maxHeartbeats 2000000 in
theorem text_any (rs : List Rn) (hf : RunsF rs) (A : Option Addr) (c : Nat) (w : World) (hs : Rs w A c rs) (htab : Tabs w) :
    Calls Tryd.prog 14 #[.slice A rs.length c] w fun e w' => e = .returned (.string ⟨(Lib.join (rs.map piece) [32]).toArray⟩) ∧ Below w.heap.size w w' := by
  have hT : ∀ i, I64 (rT rs i) := allG_i64 hf.1 (by have := sumT_bound hf.1; unfold tot; omega)
  have hcall := fun W (h : Rs W A c rs) => formedR_any rs hT A c W h
  rw [runsOk_yes hf] at hcall
  have hcap := hs.cap
  have hr200 := hf.2
  have hmax := hs.max
  have HF := Lib.hid hf
  clear hT hf
  obtain ⟨i0, hi, hz0, hz1, hz2⟩ := info_parts info97
  go_enter Tryd.func14, Tryd.ntmps14
  go_wp2_with fail
  refine (hcall _ hs).mono ?_
  rintro e w1 ⟨rfl, hb1⟩
  clear hcall
  go_wp2
  go_loopw [3, 12] (fun out i wr => ∃ k : Nat, k ≤ rs.length ∧ i = .int .i64 k ∧ Ow wr w.heap.size 9 out (ptx rs k) ∧ Below w.heap.size w wr) (fun _ i _ => rs.length - (intOf i).toNat)
  case atStart => exact ⟨0, by omega, rfl, World.ownsRow_nil _ _ _ _, hb1⟩
  case round =>
    obtain ⟨k, hk, rfl, ho, hb⟩ := hrel
    by_cases hlt : k < rs.length
    · have hlz : (k : Int) < (rs.length : Int) := by omega
      obtain ⟨ad, rfl, k0, k1⟩ := (hs.below hb).at_ hlt
      have hg := HF.out.1 k hlt
      have hk1 := sumT_bound (rs := rs) (k := k) fun j hj => HF.out.1 j (by omega)
      unfold Good at hg
      obtain ⟨t, ht⟩ : ∃ t : Nat, rT rs k = (t : Int) := ⟨(rT rs k).toNat, by omega⟩
      have ht1 : 1 ≤ t := by omega
      have ht2 : t ≤ 4611686018427387904 := by omega
      rw [ht] at k1
      have HTE := Lib.hid ht
      clear hg hk1 ht
      obtain ⟨b, hb0⟩ : ∃ b, b = rB rs k := ⟨_, rfl⟩
      rw [← hb0] at k0
      obtain ⟨X, hX⟩ : ∃ X, X = (b.toNat : Int) := ⟨_, rfl⟩
      rw [← hX] at k0
      have hX1 : 0 ≤ X := by omega
      have hX2 : X < 256 := by have := b.toNat_lt; omega
      have hq1 : ∀ W, (IdxS 9 (.string ⟨#[48, 49, 50, 51, 52, 53, 54, 55, 56, 57, 97, 98, 99, 100, 101, 102]⟩) (.int .u8 (X / 16))).run Tryd.prog W = .ok (.int .u8 ((hx (b.toNat / 16)).toNat : Int)) W := fun W => by
        have := idx_hex (b.toNat / 16) (by have := b.toNat_lt; omega) W
        rwa [show ((b.toNat / 16 : Nat) : Int) = X / 16 by omega] at this
      have hq2 : ∀ W, (IdxS 9 (.string ⟨#[48, 49, 50, 51, 52, 53, 54, 55, 56, 57, 97, 98, 99, 100, 101, 102]⟩) (.int .u8 (X % 16))).run Tryd.prog W = .ok (.int .u8 ((hx (b.toNat % 16)).toNat : Int)) W := fun W => by
        have := idx_hex (b.toNat % 16) (by omega) W
        rwa [show ((b.toNat % 16 : Nat) : Int) = X % 16 by omega] at this
      obtain ⟨d1, hd1⟩ : ∃ d1, d1 = hx (b.toNat / 16) := ⟨_, rfl⟩
      obtain ⟨d2, hd2⟩ : ∃ d2, d2 = hx (b.toNat % 16) := ⟨_, rfl⟩
      rw [← hd1] at hq1
      rw [← hd2] at hq2
      have HD1 := Lib.hid hd1
      have HD2 := Lib.hid hd2
      have HB0 := Lib.hid hb0
      have HX := Lib.hid hX
      clear hb0 hX hd1 hd2
      have hcv := conv2 (wr.heap.size + 1) (((wr.alloc (.cells #[.int .u8 X, .int .i64 (t : Int)] 31)).alloc (.cells #[.int .u8 (d1.toNat : Int), .int .u8 (d2.toNat : Int)] 5)).drew) d1 d2 (by go_simp) (by go_simp)
      obtain ⟨w2, hw2⟩ : ∃ w2, w2 = (((wr.alloc (.cells #[.int .u8 X, .int .i64 (t : Int)] 31)).alloc (.cells #[.int .u8 (d1.toNat : Int), .int .u8 (d2.toNat : Int)] 5)).drew) := ⟨_, rfl⟩
      have hbW : Below w.heap.size w w2 := by rw [hw2]; exact ((hb.alloc hb.size _).alloc (by have := hb.size; simp; omega) _).drew
      have hcT : w2.cell? ⟨wr.heap.size, 1, none⟩ = some (.int .i64 (t : Int)) := by rw [hw2]; go_simp
      have hoW : Ow w2 w.heap.size 9 u3 (ptx rs k) := by rw [hw2]; exact World.ownsRow.drew ((ho.alloc _).alloc _)
      have htb : Tabs w2 := htab.below hbW
      have hpl := dec_len t ht2
      obtain ⟨Z, hZ⟩ : ∃ Z, Z = piece rs[k] := ⟨_, rfl⟩
      have hZs : ptx rs (k + 1) = ptx rs k ++ [.string ⟨Z.toArray⟩] := by
        unfold ptx strs
        rw [hZ, show rs.take (k + 1) = rs.take k ++ [rs[k]] by simp, List.map_append, List.map_append]
        rfl
      have hZd : Z = d1 :: d2 :: (if t = 1 then [] else 42 :: Lib.decDigits t) := by
        have e1 := HB0.out
        have e2 := HTE.out
        simp only [rB, rT, List.getD_eq_getElem?_getD, List.getElem?_eq_getElem hlt, Option.getD_some] at e1 e2
        rw [hZ]
        unfold piece
        rw [← e1, e2, ← HD1.out, ← HD2.out]
        congr 2
        by_cases h : t = 1
        · rw [if_pos h, if_pos (by omega)]
        · rw [if_neg h, if_neg (by omega)]; rfl
      have HZ := Lib.hid hZs
      have HZD := Lib.hid hZd
      clear hZ hZs hZd ho
      by_cases hone : t = 1
      · have h1z : ¬ (t : Int) > 1 := by omega
        have hzz : Z = [d1, d2] := by rw [HZD.out, if_pos hone]
        obtain ⟨g3, c3, w5, hr5, hq5, hg5⟩ := app_row (P := Tryd.prog) w2 47 9 _ 1 16 Tryd.underlying47 hi hz0 hz1 hz2 rfl (by omega) u3 k _ (by have := hoW; unfold Ow at this; rwa [ptx_length rs k hk] at this) (by have := hbW.size; omega) [.string ⟨Z.toArray⟩] rfl (by simp [Value.oneCell']) (by omega) (by omega)
        have hlo := (hoW).lt
        have hb6 := hbW.grown hg5 (by have := hbW.size; omega) (fun k e => (hlo k e).1)
        have HO5 : Hid (Ow w5 w.heap.size 9 (.slice (some ⟨g3, 0, none⟩) (k + 1) c3) (ptx rs (k + 1))) := by
          show Ow _ _ _ _ _
          rw [HZ.out]
          unfold Ow
          rw [List.length_append, ptx_length rs k hk]
          exact hq5
        clear hq5 hg5 hlo
        rw [hzz] at hr5
        clear hzz hone
        go_wp2_with fail
        go_region
        all_goals
          rw [← hw2]
          clear hcv hw2
          go_wp2
          go_roundw
          case rel => exact ⟨k + 1, by omega, by go_num, HO5.out, hb6⟩
          case measure => simp [intOf]; omega
      · have h1z : (t : Int) > 1 := by omega
        have hzz : Z = [d1, d2] ++ (42 :: Lib.decDigits t) := by rw [HZD.out, if_neg hone]; rfl
        have hfm := fmt_any t ht2 w2 htb
        obtain ⟨D, hD⟩ : ∃ D, D = Lib.decDigits t := ⟨_, rfl⟩
        rw [← hD] at hfm hzz hpl
        have ha1 := fun W => adds_run (P := Tryd.prog) W [42] D (by simp; omega)
        have ha2 := fun W => adds_run (P := Tryd.prog) W [d1, d2] (42 :: D) (by simp; omega)
        rw [← hzz] at ha2
        simp only [List.singleton_append] at ha1
        clear hD hzz
        go_wp2_with fail
        go_region
        all_goals
          rw [← hw2]
          clear hcv hw2
          go_wp2_with fail
          refine hfm.mono ?_
          rintro e w4 ⟨rfl, hb4⟩
          have hb44 := ext_trans hbW hb4
          have hoV := ow_below hoW hb4
          obtain ⟨g3, c3, w5, hr5, hq5, hg5⟩ := app_row (P := Tryd.prog) w4 47 9 _ 1 16 Tryd.underlying47 hi hz0 hz1 hz2 rfl (by omega) u3 k _ (by have := hoV; unfold Ow at this; rwa [ptx_length rs k hk] at this) (by have := hb44.size; omega) [.string ⟨Z.toArray⟩] rfl (by simp [Value.oneCell']) (by omega) (by omega)
          have hlo := (hoV).lt
          have hb6 := hb44.grown hg5 (by have := hb44.size; omega) (fun k e => (hlo k e).1)
          have HO5 : Hid (Ow w5 w.heap.size 9 (.slice (some ⟨g3, 0, none⟩) (k + 1) c3) (ptx rs (k + 1))) := by
            show Ow _ _ _ _ _
            rw [HZ.out]
            unfold Ow
            rw [List.length_append, ptx_length rs k hk]
            exact hq5
          clear hq5 hg5 hlo
  
          go_wp2
          go_roundw
          case rel => exact ⟨k + 1, by omega, by go_num, HO5.out, hb6⟩
          case measure => simp [intOf]; omega
    · obtain rfl : k = rs.length := by omega
      have hlz : ¬ (rs.length : Int) < (rs.length : Int) := by omega
      have hjn := joinS_any (rs.map piece) u3 w.heap.size wr (by have := ho; unfold ptx at this; rwa [List.take_length] at this) (by rw [List.length_map]; omega) (fun x hx => by
        obtain ⟨r, hr, rfl⟩ := List.mem_map.1 hx
        have h1 := mem_tot rs (allG_mem HF.out.1) r hr
        have h2 := sumT_bound HF.out.1
        exact piece_len r (allG_mem HF.out.1 r hr) (by unfold tot at h1; omega))
      go_wp2_with fail
      refine hjn.mono ?_
      rintro e w5 ⟨rfl, hb5⟩
      go_wp2
      go_ret
      exact ⟨rfl, ext_trans hb hb5⟩
end Go.Proofs.YtbdgfbkhplhpkaaDoor
