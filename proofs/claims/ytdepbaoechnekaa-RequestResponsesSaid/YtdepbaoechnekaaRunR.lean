/- The walk of the reference's Response. -/
import Derived.Test.YtdepbaoechnekaaRunW
import Derived.Test.YtdepbaoechnekaaRunO
import Derived.Test.YtdepbaoechnekaaReqR
import Derived.Test.YtdepbaoechnekaaRunD
import Derived.Deep.RegionLaw
import Derived.Deep.DeepCutAuto
namespace Go.Proofs.Ytdepbaoechnekaa
open Go.RowKit

/-- A signed number's unsigned twin. -/
def toU (x : Int) : Nat := (x % 18446744073709551616).toNat
theorem toU_eq (x : Int) : IntKind.u64.wrap x = ((toU x : Nat) : Int) := by unfold toU; rw [IntKind.wrap_u64]; omega
theorem toU_lt (x : Int) : toU x < 18446744073709551616 := by unfold toU; omega
/-- The bytes of the first k runs. -/
def encRuns (rs : List Rn) : Nat → List UInt8
  | 0 => []
  | k + 1 => encRuns rs k ++ [rB rs k] ++ be (toU (rT rs k)) 8
theorem encRuns_length (rs : List Rn) (k : Nat) : (encRuns rs k).length = k * 9 := by
  induction k with
  | zero => rfl
  | succ k ih => simp [encRuns, ih, be_length]; omega
def encR (E P : Nat) (y : Bool) (t : ByteArray) (N : Int) (rs : List Rn) : List UInt8 :=
  [UInt8.ofNat E] ++ be P 2 ++ [if y then 1 else 0] ++ (be t.size 2 ++ t.data.toList) ++ be (toU N) 8 ++ [UInt8.ofNat rs.length] ++ encRuns rs rs.length

/-- What stands between two calls of the reference's writer: the response's box, all that was there. -/
structure RSt (w : World) (q : Nat) (cs : Array Value) (wi : World) : Prop where
  blk : wi.heap[q]? = some (.cells cs 38)
  ext : Below w.heap.size w wi
  lt : w.heap.size ≤ wi.heap.size
namespace RSt
variable {w wi wj : World} {q g : Nat} {cs : Array Value}
theorem next (h : RSt w q cs wi) (hb : Below g wi wj) (hg : q < g) (hle : w.heap.size ≤ g := by omega) : RSt w q cs wj :=
  ⟨(hb.block q hg).trans h.blk, below_step h.ext hb hle, by have := hb.size; have := h.lt; omega⟩
theorem alloc (h : RSt w q cs wi) (o : Obj) : RSt w q cs (wi.alloc o) := ⟨blk_alloc h.blk o, h.ext.alloc h.lt o, by have := h.lt; simp; omega⟩
theorem drew (h : RSt w q cs wi) : RSt w q cs wi.drew := ⟨h.blk, h.ext.drew, h.lt⟩
theorem later (h : RSt w q cs wi) (hb : Below wi.heap.size wi wj) : RSt w q cs wj := h.next hb (blk_lt h.blk) h.lt
theorem grown (h : RSt w q cs wi) {row : Option Nat} (hg : wi.grownBy wj row) (hr : ∀ k, row = some k → q + 1 ≤ k ∧ k < wi.heap.size) (hq : w.heap.size ≤ q := by omega) : RSt w q cs wj :=
  ⟨blk_grown h.blk hg (fun e => by have := hr q e; omega), h.ext.grown hg h.lt (fun k e => by have := hr k e; omega), by have := hg.size; have := h.lt; omega⟩
end RSt
theorem byc_single (b : UInt8) : byc [b] = [.int .u8 (b.toNat : Int)] := rfl
theorem ow_lit (W : World) (base : Nat) (h : base ≤ W.heap.size) (b : UInt8) : Ow (W.alloc (.cells #[.int .u8 (b.toNat : Int)] 5)) base 5 (.slice (some ⟨W.heap.size, 0, none⟩) 1 1) (byc [b]) := by
  have := World.ownsRow_lit (base := base) (e := 5) (size := 1) W #[.int .u8 (b.toNat : Int)] 1 h (by unfold maxLen; omega) rfl
  simpa [Ow, byc] using this

set_option maxRecDepth 100000 in
set_option maxHeartbeats 1000000 in
theorem refResp_any (E Pl : Nat) (N : Int) (y : Bool) (t : ByteArray) (rs : List Rn) (A : Option Addr) (c : Nat) (w : World) (hs : Rs w A c rs) (hT : ∀ i, I64 (rT rs i)) (hE : E < 256) (hP : Pl < 65536) (ht : t.size < 65536) (hN : I64 N) (hF : runsOk rs = true) :
    Calls Try.prog 14 #[.agg #[.int .i64 E, .int .i64 Pl, .bool y, .string t, .int .i64 N, .slice A rs.length c]] w fun e w' =>
      ∃ A' c', e = .returned (.tuple #[.slice A' (encR E Pl y t N rs).length c', .bool true]) ∧ Sl w' A' c' (byc (encR E Pl y t N rs)) ∧ Below w.heap.size w w' := by
  have hlen : rs.length ≤ 200 := (runsOk_of hF).2
  obtain ⟨i0, hi, hz0, hz1, hz2⟩ := info_parts info8
  have box : RSt w w.heap.size #[.int .i64 E, .int .i64 Pl, .bool y, .string t, .int .i64 N, .slice A rs.length c] (w.alloc (.cells #[.int .i64 E, .int .i64 Pl, .bool y, .string t, .int .i64 N, .slice A rs.length c] 38)) :=
    ⟨heap_alloc_new w _, (Below.refl _ w).alloc (Nat.le_refl _) _, by simp⟩
  go_enter Try.func14, Try.ntmps14
  go_wp2_with fail
  refine (formedF_any rs hT A c _ (hs.alloc _)).mono ?_
  rintro e w1 ⟨rfl, hb1⟩
  have st1 := box.later hb1
  rw [hF]
  clear box hb1
  obtain ⟨q0, q1, q2, q3, q4, q5⟩ := s_cells st1.blk
  go_wp2
  go_cut [6] (fun v wx => Ow wx (w.heap.size + 1) 5 v (byc ([UInt8.ofNat E] ++ be Pl 2)) ∧ RSt w w.heap.size #[.int .i64 E, .int .i64 Pl, .bool y, .string t, .int .i64 N, .slice A rs.length c] wx)
  case first =>
    have eb : IntKind.u8.wrap (E : Int) = ((UInt8.ofNat E).toNat : Int) := by rw [UInt8.toNat_ofNat', IntKind.wrap_u8]; omega
    have hbs : w.heap.size + 1 ≤ w1.heap.size := blk_lt st1.blk
    have hlit : ∀ W : World, w.heap.size + 1 ≤ W.heap.size → Ow (W.alloc (.cells #[.int .u8 (IntKind.u8.wrap E)] 5)) (w.heap.size + 1) 5 (.slice (some ⟨W.heap.size, 0, none⟩) 1 1) (byc [UInt8.ofNat E]) := fun W h => by
      rw [eb]; exact ow_lit W _ h _
    have st1d := st1.drew
    have sta0 := st1.alloc (.cells #[.int .u8 (IntKind.u8.wrap E)] 5)
    have qa1 := blk_cell sta0.blk 1
    have sta := sta0.drew
    have howa : Ow (w1.alloc (.cells #[.int .u8 (IntKind.u8.wrap E)] 5)).drew (w.heap.size + 1) 5 (.slice (some ⟨w1.heap.size, 0, none⟩) 1 1) (byc [UInt8.ofNat E]) := hlit w1 hbs
    have Eb := Lib.hid eb
    clear eb sta0
    have hn : ∀ W, Calls Try.prog 20 #[.int .u64 (IntKind.u64.wrap Pl), .int .i64 2] W fun e w' => ∃ v, e = .returned v ∧ Ow w' W.heap.size 5 v (byc (be Pl 2)) ∧ Below W.heap.size W w' := by
      rw [show IntKind.u64.wrap (Pl : Int) = (Pl : Int) by rw [IntKind.wrap_u64]; omega]
      exact fun W => ref_number_any Pl 2 W (by omega) (by omega)
    have hby1 : (byc [UInt8.ofNat E]).length + (byc (be Pl 2)).length ≤ 140737488355328 := by simp [byc_length, be_length]
    have hbl1 : ∀ W : World, w.heap.size + 1 ≤ W.heap.size → w.heap.size + 1 ≤ (W.alloc (.cells #[.int .u8 (IntKind.u8.wrap E)] 5)).heap.size := fun W h => by simp; omega
    go_region_law (first
      | (refine step_append_sl wb rfl (.tmp 45) (.tmp 49) 22 rfl (w.heap.size + 1) 5 i0 (.int .u8 0) 1 Try.underlying22 hi hz0 hz1 hz2 rfl (.slice (some ⟨w1.heap.size, 0, none⟩) 1 1) (byc [UInt8.ofNat E]) (by simp [Act.eval, Act.put]) howb X cx (byc (be Pl 2)) (by simp [Act.eval, Act.put]) hsx (byc_one _) hby1 (by decide) hbs2 ?_; intro v3 w3 how3 hgr3 hbv3
         have st3 := stb.grown hgr3 howb.lt)
      | (refine step_append_sl (wb.alloc (.cells #[.int .u8 (IntKind.u8.wrap E)] 5)) rfl (.tmp 45) (.tmp 49) 22 rfl (w.heap.size + 1) 5 i0 (.int .u8 0) 1 Try.underlying22 hi hz0 hz1 hz2 rfl (.slice (some ⟨wb.heap.size, 0, none⟩) 1 1) (byc [UInt8.ofNat E]) (by simp [Act.eval, Act.put]) (hlit wb hbs2) X cx (byc (be Pl 2)) (by simp [Act.eval, Act.put]) (hsx.alloc _) (byc_one _) hby1 (by decide) (hbl1 wb hbs2) ?_; intro v3 w3 how3 hgr3 hbv3
         have st3 := (stb.alloc _).grown hgr3 (hlit wb hbs2).lt)
      | (go_simp; with_reducible refine (hn (w1.alloc (.cells #[.int .u8 (IntKind.u8.wrap E)] 5)).drew).mono ?_; rintro e wb ⟨x, rfl, hox, hbb⟩
         obtain ⟨X, cx, rfl, hsx, hbx⟩ := hox.sl
         have stb := sta.later hbb
         have hbs2 : w.heap.size + 1 ≤ wb.heap.size := blk_lt stb.blk
         have howb := howa.below hbb
         have q0b := blk_cell stb.blk 0)
      | (go_simp; with_reducible refine (hn w1.drew).mono ?_; rintro e wb ⟨x, rfl, hox, hbb⟩
         obtain ⟨X, cx, rfl, hsx, hbx⟩ := hox.sl
         have stb := st1d.later hbb
         have hbs2 : w.heap.size + 1 ≤ wb.heap.size := blk_lt stb.blk
         have q0b := blk_cell stb.blk 0))
    all_goals (go_wp2_with fail; go_meet; exact ⟨by rw [byc_append]; exact how3, st3⟩)
  case rest =>
    obtain ⟨how1, st1'⟩ := hcut
    clear st1 q0 q1 q2 q3 q4 q5
    obtain ⟨q0, q1, q2, q3, q4, q5⟩ := s_cells st1'.blk
    have hwl : w.heap.size + 1 ≤ wc.heap.size := blk_lt st1'.blk
    have one : ∀ u ∈ [Value.int .u8 1], u.oneCell' = true := fun u hu => by rw [List.mem_singleton] at hu; subst hu; rfl
    have one0 : ∀ u ∈ [Value.int .u8 0], u.oneCell' = true := fun u hu => by rw [List.mem_singleton] at hu; subst hu; rfl
    obtain ⟨L1, hL1e⟩ : ∃ L, L = [UInt8.ofNat E] ++ be Pl 2 := ⟨_, rfl⟩
    have hL1 : (byc L1).length = 3 := by rw [hL1e]; simp [byc_length, be_length]
    rw [← hL1e] at how1
    have HL1 := Lib.hid hL1e
    clear hL1e
    have hb0 : ((byc L1).length + [Value.int .u8 0].length) * 1 ≤ 140737488355328 := by rw [hL1]; decide
    have hb1 : ((byc L1).length + [Value.int .u8 1].length) * 1 ≤ 140737488355328 := by rw [hL1]; decide
    have hba0 : ∀ o, w.heap.size + 1 ≤ (wc.alloc o).heap.size := fun o => by simp; omega
    go_upto_if 52 with fail
    go_cut [6] (fun v wx => Ow wx (w.heap.size + 1) 5 v (byc (L1 ++ [if y then 1 else 0])) ∧ RSt w w.heap.size #[.int .i64 E, .int .i64 Pl, .bool y, .string t, .int .i64 N, .slice A rs.length c] wx)
    case first =>
      cases y
      · go_wp2_with (at_builtin; refine wpList_append_sl (wc.alloc (.cells #[.int .u8 0] 5)) rfl _ _ 22 rfl (w.heap.size + 1) 5 i0 (.int .u8 0) 1 Try.underlying22 hi hz0 hz1 hz2 rfl u6 (byc L1) rfl (how1.alloc _) (some ⟨wc.heap.size, 0, none⟩) 1 [.int .u8 0] rfl (sl_one wc _ _) one0 hb0 (by omega) (hba0 _) ?_)
        intro v2 w2 how2 hgr2 hbv2
        have st2 := (st1'.alloc _).grown hgr2 (how1.alloc _).lt
        go_wp2_with fail
        go_meet
        exact ⟨by rw [byc_append]; exact how2, st2⟩
      · go_wp2_with (at_builtin; refine wpList_append_sl (wc.alloc (.cells #[.int .u8 1] 5)) rfl _ _ 22 rfl (w.heap.size + 1) 5 i0 (.int .u8 0) 1 Try.underlying22 hi hz0 hz1 hz2 rfl u6 (byc L1) rfl (how1.alloc _) (some ⟨wc.heap.size, 0, none⟩) 1 [.int .u8 1] rfl (sl_one wc _ _) one hb1 (by omega) (hba0 _) ?_)
        intro v2 w2 how2 hgr2 hbv2
        have st2 := (st1'.alloc _).grown hgr2 (how1.alloc _).lt
        go_wp2_with fail
        go_meet
        exact ⟨by rw [byc_append]; exact how2, st2⟩
    case rest =>
      obtain ⟨how2, st2⟩ := hcut
      clear st1' how1 q0 q1 q2 q3 q4 q5
      obtain ⟨q0, q1, q2, q3, q4, q5⟩ := s_cells st2.blk
      obtain ⟨L2, hL2e⟩ : ∃ L, L = L1 ++ [if y then 1 else 0] := ⟨_, rfl⟩
      have hL2 : (byc L2).length = 4 := by rw [hL2e, byc_append, List.length_append, hL1]; rfl
      rw [← hL2e] at how2
      have HL2 := Lib.hid hL2e
      clear hL2e
      have e1 : t.data.toList.length = t.size := by simp
      go_wp2_with fail
      refine (ref_text_any t _ (by omega)).mono ?_
      rintro e w2 ⟨x, rfl, hox, hb2⟩
      have st3 := st2.later hb2
      have how3 := how2.below hb2
      clear st2 how2 hb2 q0 q1 q2 q3 q4 q5
      obtain ⟨X, cx, rfl, hsx, hbx⟩ := hox.sl
      clear hbx
      have hb3 : ((byc L2).length + (byc (be t.size 2 ++ t.data.toList)).length) * 1 ≤ 140737488355328 := by rw [hL2]; simp only [byc_length, List.length_append, be_length, e1]; omega
      have hba3 : w.heap.size + 1 ≤ w2.heap.size := blk_lt st3.blk
      go_wp2_with (at_builtin; refine wpList_append_sl w2 rfl _ _ 22 rfl (w.heap.size + 1) 5 i0 (.int .u8 0) 1 Try.underlying22 hi hz0 hz1 hz2 rfl u6 (byc L2) rfl how3 X cx (byc (be t.size 2 ++ t.data.toList)) rfl hsx (byc_one _) hb3 (by omega) hba3 ?_)
      intro v4 w4 how4 hgr4 hbv4
      rw [← byc_append] at how4
      have st4 := st3.grown hgr4 how3.lt
      clear st3 how3 hgr4 hbv4 hox hsx
      obtain ⟨q0, q1, q2, q3, q4, q5⟩ := s_cells st4.blk
      obtain ⟨L3, hL3e⟩ : ∃ L, L = L2 ++ (be t.size 2 ++ t.data.toList) := ⟨_, rfl⟩
      have hL3 : (byc L3).length ≤ 70000 := by rw [hL3e, byc_append, List.length_append, hL2]; simp only [byc_length, List.length_append, be_length, e1]; omega
      rw [← hL3e] at how4
      have HL3 := Lib.hid hL3e
      clear hL3e
      have hnN : ∀ x : Int, ∀ W, Calls Try.prog 20 #[.int .u64 (IntKind.u64.wrap x), .int .i64 8] W fun e w' => ∃ v, e = .returned v ∧ Ow w' W.heap.size 5 v (byc (be (toU x) 8)) ∧ Below W.heap.size W w' := by
        intro x
        rw [toU_eq]
        exact fun W => ref_number_any (toU x) 8 W (toU_lt x) (by omega)
      go_wp2_with fail
      with_reducible refine (hnN N w4).mono ?_
      rintro e w5 ⟨x, rfl, hox, hb5⟩
      have st5 := st4.later hb5
      have how5 := how4.below hb5
      clear st4 how4 hb5 q0 q1 q2 q3 q4 q5
      obtain ⟨X5, cx5, rfl, hsx, hbx⟩ := hox.sl
      clear hbx
      have hb5 : ((byc L3).length + (byc (be (toU N) 8)).length) * 1 ≤ 140737488355328 := by simp only [byc_length, be_length] at hL3 ⊢; omega
      have hba5 : w.heap.size + 1 ≤ w5.heap.size := blk_lt st5.blk
      go_wp2_with (at_builtin; refine wpList_append_sl w5 rfl _ _ 22 rfl (w.heap.size + 1) 5 i0 (.int .u8 0) 1 Try.underlying22 hi hz0 hz1 hz2 rfl v4 (byc L3) rfl how5 X5 cx5 (byc (be (toU N) 8)) rfl hsx (byc_one _) hb5 (by omega) hba5 ?_)
      intro v6 w6 how6 hgr6 hbv6
      rw [← byc_append] at how6
      have st6 := st5.grown hgr6 how5.lt
      clear st5 how5 hgr6 hbv6 hox hsx
      obtain ⟨q0, q1, q2, q3, q4, q5⟩ := s_cells st6.blk
      obtain ⟨L4, hL4e⟩ : ∃ L, L = L3 ++ be (toU N) 8 := ⟨_, rfl⟩
      have hL4 : (byc L4).length ≤ 70010 := by rw [hL4e, byc_append, List.length_append]; simp only [byc_length, be_length] at hL3 ⊢; omega
      rw [← hL4e] at how6
      have HL4 := Lib.hid hL4e
      clear hL4e
      have el : ((UInt8.ofNat rs.length).toNat : Int) = (rs.length : Int) := by rw [UInt8.toNat_ofNat']; omega
      have one7 : ∀ u ∈ [Value.int .u8 (rs.length : Int)], u.oneCell' = true := fun u hu => by rw [List.mem_singleton] at hu; subst hu; rfl
      have hb7 : ((byc L4).length + [Value.int .u8 (rs.length : Int)].length) * 1 ≤ 140737488355328 := by simp only [List.length_singleton]; omega
      have hba7 : ∀ o, w.heap.size + 1 ≤ (w6.alloc o).heap.size := fun o => by have := blk_lt st6.blk; simp; omega
      go_wp2_with (at_builtin; refine wpList_append_sl (w6.alloc (.cells #[.int .u8 (rs.length : Int)] 5)) rfl _ _ 22 rfl (w.heap.size + 1) 5 i0 (.int .u8 0) 1 Try.underlying22 hi hz0 hz1 hz2 rfl v6 (byc L4) rfl (how6.alloc _) (some ⟨w6.heap.size, 0, none⟩) 1 [.int .u8 (rs.length : Int)] rfl (sl_one w6 _ _) one7 hb7 (by omega) (hba7 _) ?_)
      intro v7 w7 how7 hgr7 hbv7
      rw [← el, ← byc_single, ← byc_append] at how7
      have st7 := (st6.alloc _).grown hgr7 (how6.alloc _).lt
      clear st6 how6 hgr7 hbv7 q0 q1 q2 q3 q4 q5 hb0 hb1 hba0 hb3 hba3 hb5 hba5 one one0 one7 hb7 hba7
      obtain ⟨L5, hL5e⟩ : ∃ L, L = L4 ++ [UInt8.ofNat rs.length] := ⟨_, rfl⟩
      have hL5 : (byc L5).length ≤ 70011 := by rw [hL5e, byc_append, List.length_append, byc_single]; simp only [List.length_singleton]; omega
      rw [← hL5e] at how7
      have HL5 := Lib.hid hL5e
      have El := Lib.hid el
      clear hL5e el
      obtain ⟨q0, q1, q2, q3, q4, q5⟩ := s_cells st7.blk
      go_wp2
      go_loopw [6, 7] (fun v i wr => ∃ k : Nat, k ≤ rs.length ∧ i = .int .i64 k ∧ Ow wr (w.heap.size + 1) 5 v (byc (L5 ++ encRuns rs k)) ∧ RSt w w.heap.size #[.int .i64 E, .int .i64 Pl, .bool y, .string t, .int .i64 N, .slice A rs.length c] wr) (fun v i _ => rs.length - (intOf i).toNat)
      case atStart => exact ⟨0, Nat.zero_le _, rfl, by simpa [encRuns] using how7, st7⟩
      case round =>
        obtain ⟨k, hk, rfl, how, st⟩ := hrel
        obtain ⟨q0, q1, q2, q3, q4, q5⟩ := s_cells st.blk
        by_cases hlt : k < rs.length
        · obtain ⟨ad, rfl, hc0, hc1⟩ := (hs.below st.ext).at_ hlt
          obtain ⟨L, hLe⟩ : ∃ L, L = L5 ++ encRuns rs k := ⟨_, rfl⟩
          have hL : (byc L).length ≤ 80000 := by rw [hLe, byc_append, List.length_append, byc_length (encRuns rs k), encRuns_length]; omega
          rw [← hLe] at how
          have HL := Lib.hid hLe
          clear hLe
          have one8 : ∀ u ∈ [Value.int .u8 ((rB rs k).toNat : Int)], u.oneCell' = true := fun u hu => by rw [List.mem_singleton] at hu; subst hu; rfl
          have hb8 : ((byc L).length + [Value.int .u8 ((rB rs k).toNat : Int)].length) * 1 ≤ 140737488355328 := by simp only [List.length_singleton]; omega
          have hba8 : ∀ o, w.heap.size + 1 ≤ (wr.alloc o).heap.size := fun o => by have := blk_lt st.blk; simp; omega
          go_wp2_with (at_builtin; refine wpList_append_sl (wr.alloc (.cells #[.int .u8 ((rB rs k).toNat : Int)] 5)) rfl _ _ 22 rfl (w.heap.size + 1) 5 i0 (.int .u8 0) 1 Try.underlying22 hi hz0 hz1 hz2 rfl _ (byc L) rfl (how.alloc _) (some ⟨wr.heap.size, 0, none⟩) 1 [.int .u8 ((rB rs k).toNat : Int)] rfl (sl_one wr _ _) one8 hb8 (by omega) (hba8 _) ?_)
          intro v8 w8 how8 hgr8 hbv8
          rw [← byc_single, ← byc_append] at how8
          have st8 := (st.alloc _).grown hgr8 (how.alloc _).lt
          clear hc0 hc1 st how hgr8 hbv8 q0 q1 q2 q3 q4 q5 one8 hb8 hba8
          obtain ⟨q0, q1, q2, q3, q4, q5⟩ := s_cells st8.blk
          obtain ⟨hc0, hc1⟩ := (hs.below st8.ext).cell ad rfl k hlt
          obtain ⟨L6, hL6e⟩ : ∃ L', L' = L ++ [rB rs k] := ⟨_, rfl⟩
          have hL6 : (byc L6).length ≤ 80001 := by rw [hL6e, byc_append, List.length_append, byc_single]; simp only [List.length_singleton]; omega
          rw [← hL6e] at how8
          have HL6 := Lib.hid hL6e
          clear hL6e
          go_wp2_with fail
          with_reducible refine (hnN (rT rs k) w8).mono ?_
          rintro e w9 ⟨x, rfl, hox, hb9⟩
          have st9 := st8.later hb9
          have how9 := how8.below hb9
          clear st8 how8 hb9 q0 q1 q2 q3 q4 q5 hc0 hc1
          obtain ⟨X9, cx9, rfl, hsx, hbx⟩ := hox.sl
          clear hbx
          have hb9 : ((byc L6).length + (byc (be (toU (rT rs k)) 8)).length) * 1 ≤ 140737488355328 := by rw [byc_length (be _ _), be_length]; omega
          have hba9 : w.heap.size + 1 ≤ w9.heap.size := blk_lt st9.blk
          go_wp2_with (at_builtin; refine wpList_append_sl w9 rfl _ _ 22 rfl (w.heap.size + 1) 5 i0 (.int .u8 0) 1 Try.underlying22 hi hz0 hz1 hz2 rfl v8 (byc L6) rfl how9 X9 cx9 (byc (be (toU (rT rs k)) 8)) rfl hsx (byc_one _) hb9 (by omega) hba9 ?_)
          intro v10 w10 how10 hgr10 hbv10
          rw [← byc_append] at how10
          have st10 := st9.grown hgr10 how9.lt
          have hend : L6 ++ be (toU (rT rs k)) 8 = L5 ++ encRuns rs (k + 1) := by
            rw [HL6.out, HL.out]; simp [encRuns]
          rw [hend] at how10
          clear st9 how9 hgr10 hbv10 hox hsx hb9 hba9 hend
          go_wp2
          go_roundw
          case rel => exact ⟨k + 1, by omega, by go_num, how10, st10⟩
          case measure => simp [intOf]; omega
        · have hkn : k = rs.length := by omega
          subst hkn
          have hfin : L5 ++ encRuns rs rs.length = encR E Pl y t N rs := by
            rw [HL5.out, HL4.out, HL3.out, HL2.out, HL1.out]; rfl
          rw [hfin] at how
          obtain ⟨A', c', rfl, hsl, hbk⟩ := how.sl
          go_wp2
          go_ret2
          exact ⟨A', c', by rw [← byc_length (encR E Pl y t N rs)]; rfl, hsl, st.ext⟩
end Go.Proofs.Ytdepbaoechnekaa
