/- The program's Unpack. -/
import Derived.Test.YtbdgfbkhplhpkaaDoorRep
namespace Go.Proofs.YtbdgfbkhplhpkaaDoor
open Go.RowKit
set_option linter.unusedVariables false
set_option linter.unusedSimpArgs false
attribute [local go_sem ↓] appS

theorem infoByte : (Tryd.prog.info? 5).map (fun i => (i.zero, i.size, i.bytes)) = some (some (.int .u8 0), 1, 1) := by kernel_rfl
/-- Bytes as cells. -/
def bcs (l : List UInt8) : List Value := l.map fun b => Value.int .u8 (b.toNat : Int)
theorem bcs_length (l : List UInt8) : (bcs l).length = l.length := by simp [bcs]
theorem bcs_append (l m : List UInt8) : bcs (l ++ m) = bcs l ++ bcs m := by simp [bcs]
theorem bcs_one (l : List UInt8) : ∀ u ∈ bcs l, u.oneCell' = true := by
  intro u hu
  obtain ⟨x, _, rfl⟩ := List.mem_map.1 hu
  rfl
/-- The word of runs. -/
def unp (rs : List Rn) : List UInt8 := rs.flatMap fun r => List.replicate r.2.toNat r.1
theorem unp_append (rs ss : List Rn) : unp (rs ++ ss) = unp rs ++ unp ss := by simp [unp]
theorem unp_length : ∀ rs : List Rn, (∀ r ∈ rs, 1 ≤ r.2) → ((unp rs).length : Int) = tot rs
  | [], _ => by simp [unp, tot, sumT]
  | r :: rs, h => by
    have h1 := unp_length rs (fun x hx => h x (by simp [hx]))
    have h2 := h r (by simp)
    rw [tot_cons, ← h1]
    unfold unp
    simp
    omega
theorem repB_sl {w : World} {g n S : Nat} {b : UInt8} (h : RepB w g n S b) (hn : n ≤ 9223372036854775807) : Sl w (some ⟨g, 0, none⟩) n (bcs (List.replicate n b)) := by
  obtain ⟨rest, hg, _⟩ := h
  refine ⟨by rw [bcs_length, List.length_replicate]; exact Nat.le_refl _, hn, fun e => (by cases e), fun ad e j u hu => ?_⟩
  injection e with e
  subst e
  have hj := (List.getElem?_eq_some_iff.1 hu).1
  rw [bcs_length, List.length_replicate] at hj
  rw [Addr.add_lit, blk_cell hg (0 + j), ← hu, Nat.zero_add]
  simp only [List.getElem?_toArray, bcs, List.map_replicate]
  rw [List.getElem?_append_left (by rw [List.length_replicate]; omega)]

theorem ow_below {w w' : World} {base : Nat} {e : TypeId} {v : Value} {xs : List Value} (h : Ow w base e v xs) (hb : Below w.heap.size w w') : Ow w' base e v xs :=
  h.kept (row := none) ⟨hb.os, hb.tape, hb.output, hb.size, fun k hk _ => hb.block k hk⟩ (by
    rcases Value.ownBlock v with _ | b
    · exact .inl rfl
    · exact .inr (by simp))
theorem unpack_bad (rs : List Rn) (hT : ∀ i, I64 (rT rs i)) (hbad : ¬ RunsF rs) (A : Option Addr) (c : Nat) (m : Int) (w : World) (hs : Rs w A c rs) :
    Calls Tryd.prog 12 #[.slice A rs.length c, .int .i64 m] w fun e w' => e = .returned (.tuple #[.slice none 0 0, .int .i64 1]) ∧ Below w.heap.size w w' := by
  have hcall := fun W (h : Rs W A c rs) => formedR_any rs hT A c W h
  rw [runsOk_no hbad] at hcall
  clear hT hbad
  go_enter Tryd.func12, Tryd.ntmps12
  go_wp2_with fail
  refine (hcall _ hs).mono ?_
  rintro e w1 ⟨rfl, hb1⟩
  clear hcall
  go_wp2
  go_ret2
  exact ⟨rfl, hb1⟩
theorem unpack_long (rs : List Rn) (hf : RunsF rs) (A : Option Addr) (c : Nat) (m : Int) (hm : m < tot rs) (w : World) (hs : Rs w A c rs) :
    Calls Tryd.prog 12 #[.slice A rs.length c, .int .i64 m] w fun e w' => e = .returned (.tuple #[.slice none 0 0, .int .i64 3]) ∧ Below w.heap.size w w' := by
  have hT : ∀ i, I64 (rT rs i) := allG_i64 hf.1 (by have := sumT_bound hf.1; unfold tot; omega)
  have hcall := fun W (h : Rs W A c rs) => formedR_any rs hT A c W h
  rw [runsOk_yes hf] at hcall
  have hsize := fun W (h : Rs W A c rs) => size_any rs hf A c W h
  clear hT hf
  obtain ⟨n, hn⟩ : ∃ n, n = tot rs := ⟨_, rfl⟩
  rw [← hn] at hsize hm
  clear hn
  go_enter Tryd.func12, Tryd.ntmps12
  go_wp2_with fail
  refine (hcall _ hs).mono ?_
  rintro e w1 ⟨rfl, hb1⟩
  clear hcall
  go_wp2_with fail
  refine (hsize _ (hs.below hb1)).mono ?_
  rintro e w2 ⟨rfl, hb2⟩
  clear hsize
  go_wp2
  go_ret2
  exact ⟨rfl, ext_trans hb1 hb2⟩
set_option maxHeartbeats 1000000 in
theorem unpack_ok (rs : List Rn) (hf : RunsF rs) (A : Option Addr) (c : Nat) (m : Int) (hm : tot rs ≤ m) (h8 : tot rs ≤ 8192) (w : World) (hs : Rs w A c rs) :
    Calls Tryd.prog 12 #[.slice A rs.length c, .int .i64 m] w fun e w' => ∃ v, e = .returned (.tuple #[v, .int .i64 0]) ∧ Ow w' w.heap.size 5 v (bcs (unp rs)) ∧ Below w.heap.size w w' := by
  have hT : ∀ i, I64 (rT rs i) := allG_i64 hf.1 (by have := sumT_bound hf.1; unfold tot; omega)
  have hcall := fun W (h : Rs W A c rs) => formedR_any rs hT A c W h
  rw [runsOk_yes hf] at hcall
  have hsize := fun W (h : Rs W A c rs) => size_any rs hf A c W h
  have hcap := hs.cap
  have hmax := hs.max
  have HF := Lib.hid hf
  have H8 := Lib.hid h8
  clear hT hf h8
  obtain ⟨n, hn⟩ : ∃ n, n = tot rs := ⟨_, rfl⟩
  rw [← hn] at hsize hm
  have hm2 : ¬ n > m := by omega
  clear hn
  obtain ⟨i0, hi, hz0, hz1, hz2⟩ := info_parts infoByte
  go_enter Tryd.func12, Tryd.ntmps12
  go_wp2_with fail
  refine (hcall _ hs).mono ?_
  rintro e w1 ⟨rfl, hb1⟩
  clear hcall
  go_wp2_with fail
  refine (hsize _ (hs.below hb1)).mono ?_
  rintro e w2 ⟨rfl, hb2⟩
  clear hsize
  have hbB := ext_trans hb1 hb2
  go_wp2
  go_loopw [6, 20] (fun out i wr => ∃ k : Nat, k ≤ rs.length ∧ i = .int .i64 k ∧ Hid (Ow wr w.heap.size 5 out (bcs (unp (rs.take k)))) ∧ Below w.heap.size w wr) (fun out i _ => rs.length - (intOf i).toNat)
  case atStart => exact ⟨0, by omega, rfl, World.ownsRow_nil _ _ _ _, hbB⟩
  case round =>
    obtain ⟨k, hk, rfl, ho, hb⟩ := hrel
    by_cases hlt : k < rs.length
    · have hlz : (k : Int) < (rs.length : Int) := by omega
      obtain ⟨ad, rfl, k0, k1⟩ := (hs.below hb).at_ hlt
      have hg := HF.out.1 k hlt
      have hk1 := sumT_bound (rs := rs) (k := k) fun j hj => HF.out.1 j (by omega)
      have hle : rT rs k ≤ tot rs := by
        have := mem_tot rs (allG_mem HF.out.1) rs[k] (List.getElem_mem hlt)
        simpa [rT, List.getD_eq_getElem?_getD, List.getElem?_eq_getElem hlt] using this
      have h8 := H8.out
      unfold Good at hg
      obtain ⟨t, ht⟩ : ∃ t : Nat, rT rs k = (t : Int) := ⟨(rT rs k).toNat, by omega⟩
      have ht1 : 0 < t := by omega
      have ht2 : t ≤ 8192 := by omega
      rw [ht] at k1
      have hst : unp (rs.take (k + 1)) = unp (rs.take k) ++ List.replicate t (rB rs k) := by
        have : rs.take (k + 1) = rs.take k ++ [rs[k]] := by simp
        rw [this, unp_append]
        congr 1
        simp only [rT, List.getD_eq_getElem?_getD, List.getElem?_eq_getElem hlt, Option.getD_some] at ht
        simp [unp, rB, List.getD_eq_getElem?_getD, List.getElem?_eq_getElem hlt, ht]
      have hlen : ((unp (rs.take k)).length : Int) ≤ 8192 := by
        rw [unp_length _ (fun r hr => allG_mem HF.out.1 r (List.mem_of_mem_take hr))]
        have := tot_take (allG_mem HF.out.1) k
        omega
      have HST := Lib.hid hst
      clear hst hg hk1 hle h8 ht
      generalize rB rs k = b at *
      obtain ⟨w3, hw3⟩ : ∃ w3, w3 = ((wr.alloc (.cells #[.int .u8 (b.toNat : Int), .int .i64 (t : Int)] 31)).alloc (.cells #[.int .u8 (b.toNat : Int)] 5)) := ⟨_, rfl⟩
      have hb3 : Below w.heap.size w w3 := by rw [hw3]; exact (hb.alloc hb.size _).alloc (by have := hb.size; simp; omega) _
      have hcb : w3.cell? ⟨wr.heap.size + 1, 0, none⟩ = some (.int .u8 (b.toNat : Int)) := by rw [hw3]; go_simp
      have ho3 : Ow w3 w.heap.size 5 u6 (bcs (unp (rs.take k))) := by rw [hw3]; exact (ho.out.alloc _).alloc _
      have hrep := repeat_any b t ht1 ht2 ⟨wr.heap.size + 1, 0, none⟩ 1 w3 hcb
      rw [hw3] at hrep
      go_wp2_with fail
      refine hrep.mono ?_
      rintro e w4 ⟨g, S, rfl, hge, hR, hb4⟩
      rw [← hw3] at hge hb4
      clear hw3 hrep
      have ho4 := ow_below ho3 hb4
      have hb5 := ext_trans hb3 hb4
      have hsl := repB_sl hR (by omega)
      obtain ⟨v6, w6, hr6, ho6, hg6, _⟩ := run_append_sl (P := Tryd.prog) w4 w.heap.size 36 36 5 i0 (.int .u8 0) 1 Tryd.underlying36 hi hz0 hz1 hz2 rfl u6 _ ho4 _ t _ hsl (bcs_one _) (by rw [bcs_length, bcs_length, List.length_replicate]; omega) (by omega) (by have := hb5.size; omega)
      rw [bcs_length, List.length_replicate, appS] at hr6
      have hlo := ho4.lt
      have hb6 := hb5.grown hg6 (by have := hb5.size; omega) (fun k e => (hlo k e).1)
      rw [← bcs_append, ← HST.out] at ho6
      have HO := Lib.hid ho6
      clear ho ho3 ho4 hsl hg6 hlo ho6 k0 k1 hcb
      go_wp2
      go_roundw
      case rel => exact ⟨k + 1, by omega, by go_num, HO, hb6⟩
      case measure => simp [intOf]; omega
    · obtain rfl : k = rs.length := by omega
      have hlz : ¬ (rs.length : Int) < (rs.length : Int) := by omega
      go_wp2
      go_ret2
      exact ⟨_, rfl, by have := ho.out; rwa [List.take_length] at this, hb⟩
end Go.Proofs.YtbdgfbkhplhpkaaDoor
