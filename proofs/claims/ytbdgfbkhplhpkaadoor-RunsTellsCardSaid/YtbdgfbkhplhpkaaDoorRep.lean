/- The library's bytes.Repeat of one byte. -/
import Derived.Test.YtbdgfbkhplhpkaaDoorRunX
import Derived.Laws.CopyOwn
import Derived.Lib.MakeNoZero
namespace Go.Proofs.YtbdgfbkhplhpkaaDoor
open Go.RowKit
set_option linter.unusedVariables false
set_option linter.unusedSimpArgs false

/-- A copy, under a name of its own. -/
def CopyS (ts : Array TypeId) (ty : TypeId) (args : Array Value) : Sem Value := Builtin.copy_ ts ty args
theorem copyS (ts : Array TypeId) (ty : TypeId) (args : Array Value) : Builtin.copy_ ts ty args = CopyS ts ty args := rfl
attribute [local go_sem ↓] copyS

theorem and_low (n : Nat) (hn : n < 4294967296) : bits .and .u64 (n : Int) 4294967295 = (n : Int) := by
  rw [u64_and _ _ (by omega) (by omega) (by decide) (by decide)]
  have : (n : Int).toNat &&& (4294967295 : Int).toNat = n := by
    rw [Int.toNat_natCast, show (4294967295 : Int).toNat = 2 ^ 32 - 1 from rfl, Nat.and_two_pow_sub_one_eq_mod]
    omega
  rw [this]
theorem mul64_1 (n : Nat) (hn : n ≤ 1000000) (w : World) : Calls Tryd.prog 30 #[.int .u64 1, .int .u64 (n : Int)] w fun e w' => e = .returned (.tuple #[.int .u64 0, .int .u64 (n : Int)]) ∧ w' = w := by
  have h1 : (n : Int) % 4294967296 = (n : Int) := by omega
  have h2 : (n : Int) / 4294967296 = 0 := by omega
  have h3 := and_low n (by omega)
  have h4 := and_low 1 (by omega)
  have h5 := and_low 0 (by omega)
  have h6 : IntKind.u64.wrap (n : Int) = (n : Int) := by rw [IntKind.wrap_u64]; omega
  simp only [Int.natCast_one, Int.natCast_zero, Int.cast_ofNat_Int] at h4 h5
  go_enter Tryd.func30, Tryd.ntmps30
  go_wp2
  go_ret2
  simp [h3, h4, h5, h6, h2]
theorem mul_1 (n : Nat) (hn : n ≤ 1000000) (w : World) : Calls Tryd.prog 23 #[.int .u64 1, .int .u64 (n : Int)] w fun e w' => e = .returned (.tuple #[.int .u64 0, .int .u64 (n : Int)]) ∧ w' = w := by
  go_enter Tryd.func23, Tryd.ntmps23
  go_wp2_with fail
  refine (mul64_1 n hn _).mono ?_
  rintro e w1 ⟨rfl, rfl⟩
  go_wp2
  go_ret2
  exact ⟨rfl, rfl⟩
/-- A row of bytes, the first of which are b. -/
def RepB (w : World) (g bp S : Nat) (b : UInt8) : Prop := ∃ rest : List Value, w.heap[g]? = some (.cells ((List.replicate bp (Value.int .u8 (b.toNat : Int))) ++ rest).toArray 5 (0, 0)) ∧ bp + rest.length = S
theorem rep_copy (w : World) (g bp n S c1 c2 : Nat) (b : UInt8) (h : RepB w g bp S b) (hn : n ≤ S) (hbp : bp < n) (ty : TypeId) :
    ∃ w', (CopyS #[36, 36] ty #[.slice (some ⟨g, bp, none⟩) (n - bp) c1, .slice (some ⟨g, 0, none⟩) bp c2]).run Tryd.prog w = .ok (.int .i64 ((min bp (n - bp) : Nat) : Int)) w' ∧ RepB w' g (bp + min bp (n - bp)) S b ∧ Below g w w' := by
  obtain ⟨rest, hg, hl⟩ := h
  have hm : (List.replicate (min bp (n - bp)) (Value.int .u8 (b.toNat : Int))).length = Nat.min bp (n - bp) := by rw [List.length_replicate]
  have hr := run_copy_row (P := Tryd.prog) w 36 36 ty 5 g bp (n - bp) c1 ⟨g, 0, none⟩ bp c2 _ _ (List.replicate (min bp (n - bp)) (Value.int .u8 (b.toNat : Int))) Tryd.underlying36 (by kernel_rfl) hg hm
    (fun j v hv => by
      have hj := (List.getElem?_eq_some_iff.1 hv).1
      rw [List.length_replicate] at hj
      rw [Addr.add_lit, blk_cell hg (0 + j)]
      rw [List.getElem?_replicate, if_pos hj] at hv
      rw [← hv, Nat.zero_add]
      simp only [List.getElem?_toArray]
      rw [List.getElem?_append_left (by rw [List.length_replicate]; omega), List.getElem?_replicate, if_pos (by omega)])
    (by rw [List.length_replicate]; simp; omega) (fun v hv => by rw [(List.mem_replicate.1 hv).2]; rfl)
  refine ⟨_, by rw [List.length_replicate] at hr; exact hr, ?_, ?_⟩
  · refine ⟨rest.drop (min bp (n - bp)), ?_, by rw [List.length_drop]; omega⟩
    rw [setRow_heap w g _ _ _ _ hg]
    congr 3
    simp only [List.toList_toArray]
    rw [List.take_append_of_le_length (by simp), List.take_of_length_le (by simp), List.drop_append, List.drop_of_length_le (by simp), List.nil_append, List.length_replicate,
      Nat.add_sub_cancel_left, List.replicate_append_replicate]
  · exact below_setRow (Below.refl _ _) (Nat.le_refl _) _
theorem rep_first (w : World) (b : UInt8) (cs : Array Value) (n c : Nat) (hn : 0 < n) (hle : n ≤ cs.size) (ad : Addr) (hc : w.cell? ad = some (.int .u8 (b.toNat : Int))) (ty : TypeId) :
    ∃ w', (CopyS #[36, 36] ty #[.slice (some ⟨w.heap.size, 0, none⟩) n n, .slice (some ad) 1 c]).run Tryd.prog ((w.alloc (.cells cs 5)).drewN 2) = .ok (.int .i64 1) w' ∧ RepB w' w.heap.size 1 cs.size b ∧ Below w.heap.size w w' := by
  have hg : ((w.alloc (.cells cs 5)).drewN 2).heap[w.heap.size]? = some (.cells cs 5 (0, 0)) := heap_alloc_new w _
  have hb : Below w.heap.size w ((w.alloc (.cells cs 5)).drewN 2) := below_drewN ((Below.refl _ _).alloc (Nat.le_refl _) _) 2
  have hr := run_copy_row (P := Tryd.prog) ((w.alloc (.cells cs 5)).drewN 2) 36 36 ty 5 w.heap.size 0 n n ad 1 c _ _ [Value.int .u8 (b.toNat : Int)] Tryd.underlying36 (by kernel_rfl) hg (by show 1 = min 1 n; omega)
    (fun j v hv => by
      match j, hv with
      | 0, hv =>
        simp at hv
        rw [← hv]
        have : ad.add 0 = ad := by simp [Addr.add]
        rw [this]
        exact (hb.cell (World.block_lt_of_cell? w _ hc)).trans hc)
    (by simp; omega) (fun v hv => by rw [List.mem_singleton.1 hv]; rfl)
  refine ⟨_, hr, ⟨cs.toList.drop 1, ?_, by simp; omega⟩, below_setRow hb (Nat.le_refl _) _⟩
  rw [setRow_heap _ _ _ _ _ _ hg]
  rfl
set_option maxHeartbeats 1000000 in
theorem repeat_any (b : UInt8) (n : Nat) (hn : 0 < n) (hn2 : n ≤ 8192) (ad : Addr) (c : Nat) (w : World) (hc : w.cell? ad = some (.int .u8 (b.toNat : Int))) :
    Calls Tryd.prog 19 #[.slice (some ad) 1 c, .int .i64 (n : Int)] w fun e w' => ∃ g S, e = .returned (.slice (some ⟨g, 0, none⟩) n n) ∧ w.heap.size ≤ g ∧ RepB w' g n S b ∧ Below w.heap.size w w' := by
  have h0 : ¬ (n : Int) = 0 := by omega
  have h1 : ¬ (n : Int) < 0 := by omega
  have h2 : IntKind.u64.wrap (n : Int) = (n : Int) := by rw [IntKind.wrap_u64]; omega
  have h3 : ¬ (n : Int) > 9223372036854775807 := by omega
  have h4 : ¬ (9223372036854775807 : Int) < (n : Int) := by omega
  go_enter Tryd.func19, Tryd.ntmps19
  go_wp2_with fail
  refine (mul_1 n (by omega) _).mono ?_
  rintro e w1 ⟨rfl, rfl⟩
  have h8 : ¬ (n : Int) > 8192 := by omega
  obtain ⟨cs, hrunM, hle, hmx⟩ := Lib.run_makeNoZero (P := Tryd.prog) w1 #[3] 36 5 Tryd.underlying36 n (by omega)
  have hcall : (callFunc 24 #[.int .i64 (n : Int)]).run Tryd.prog w1 = .ok (.value (.slice (some ⟨w1.heap.size, 0, none⟩) n cs.size)) ((w1.alloc (.cells cs 5)).drewN 2) := by
    rw [run_callFunc_extern Tryd.func24 (by kernel_rfl) (by kernel_rfl) (by kernel_rfl) (e := Extern.BytealgMakeNoZero.makeNoZero #[3] #[36]) (by kernel_rfl), hrunM]
    rfl
  have i1 : (n : Int) ≤ (cs.size : Int) := by omega
  obtain ⟨w2, hr2, hR2, hb2⟩ := rep_first w1 b cs n c hn hle ad hc 3
  clear hrunM hmx
  go_wp2_with fail
  clear hcall hr2
  go_loopw [10] (fun bpv wr => ∃ bp : Nat, 1 ≤ bp ∧ bp ≤ n ∧ bpv = .int .i64 bp ∧ Hid (RepB wr w1.heap.size bp cs.size b) ∧ Below w1.heap.size w1 wr) (fun bpv _ => n - (intOf bpv).toNat)
  case atStart => exact ⟨1, by omega, by omega, rfl, hR2, hb2⟩
  case round =>
    obtain ⟨bp, hp1, hp2, rfl, hR, hb⟩ := hrel
    by_cases hlt : bp < n
    · have hlz : (bp : Int) < (n : Int) := by omega
      have hlz2 : (bp : Int) ≤ (n : Int) := by omega
      have hR' : RepB wr.drew w1.heap.size bp cs.size b := hR.out
      obtain ⟨w3, hr3, hR3, hb3⟩ := rep_copy wr.drew w1.heap.size bp n cs.size (n - bp) n b hR' hle hlt 3
      have hw : IntKind.i64.wrap ((bp : Int) + ((min bp (n - bp) : Nat) : Int)) = ((bp + min bp (n - bp) : Nat) : Int) := by rw [IntKind.wrap_i64]; omega
      obtain ⟨m, hm⟩ : ∃ m, m = min bp (n - bp) := ⟨_, rfl⟩
      rw [← hm] at hr3 hR3 hw
      have HM := Lib.hid hm
      have HR3 := Lib.hid hR3
      clear hm hR3 hR'
      go_wp2
      go_region
      all_goals
        have hmm := HM.out
        go_wp2
        go_roundw
        case rel => exact ⟨bp + m, by omega, by omega, by go_num, HR3, (hb.drew).trans hb3⟩
        case measure => simp [intOf]; omega
    · obtain rfl : bp = n := by omega
      have hlz : ¬ (bp : Int) < (bp : Int) := by omega
      go_wp2
      go_ret
      exact ⟨_, rfl, Nat.le_refl _, ⟨_, hR.out⟩, hb⟩
end Go.Proofs.YtbdgfbkhplhpkaaDoor
