/- The walks of package request's writer. -/
import Derived.Test.YtdepbaoechnekaaProg
import Derived.Test.YtdepbaoechnekaaK1
import Derived.Test.YtdepbaoechnekaaReqW
import Derived.WalkKit
import Derived.LoopTactic
import Derived.Deep.RegionLaw
import Derived.BigQuiet
import Derived.Deep.QuietTactic
import Derived.WalkSpells
import Derived.Outline
namespace Go.Proofs.Ytdepbaoechnekaa
open Go.RowKit

/-- The bytes of a number, the greatest first. -/
def be (n : Nat) : Nat → List UInt8
  | 0 => []
  | k + 1 => UInt8.ofNat (n / 256 ^ k) :: be n k
theorem be_length (n k : Nat) : (be n k).length = k := by
  induction k with
  | zero => rfl
  | succ k ih => simp [be, ih]

theorem be_byte (n k : Nat) (h : 0 < k) : IntKind.u8.wrap ((n : Int) / 2 ^ (8 * ((k : Int) - 1)).toNat) = ((UInt8.ofNat (n / 256 ^ (k - 1))).toNat : Int) := by
  rw [show (8 * ((k : Int) - 1)).toNat = 8 * (k - 1) by omega, UInt8.toNat_ofNat', IntKind.wrap_u8, Int.pow_mul, show ((2 : Int) ^ 8) = ((256 : Nat) : Int) by rfl, ← Int.natCast_pow, ← Int.natCast_ediv]
  omega
theorem be_step (n k : Nat) (h : 0 < k) (pre : List UInt8) : (pre ++ [UInt8.ofNat (n / 256 ^ (k - 1))]) ++ be n (k - 1) = pre ++ be n k := by
  obtain ⟨j, rfl⟩ : ∃ j, k = j + 1 := ⟨k - 1, by omega⟩
  simp [be]

theorem ow_of {w : World} {base : Nat} {e : TypeId} {v : Value} {n : Nat} {xs : List Value} (h : w.ownsRow base e 1 v n xs) (hn : n = xs.length) : Ow w base e v xs := by
  subst hn
  exact h

/-- The writer's block. -/
def OutIs (w : World) (g base : Nat) (l : List UInt8) : Prop :=
  ∃ v, w.heap[g]? = some (.cells #[v] 46) ∧ Ow w base 5 v (byc l)

set_option maxHeartbeats 400000 in
theorem out_number_any (l : List UInt8) (n size g base : Nat) (w : World) (hout : OutIs w g base l) (hg : base ≤ g) (hl : l.length ≤ 1000000) (hn : n < 18446744073709551616) (h1 : 1 ≤ size) (h2 : size ≤ 8) :
    Calls Try.prog 17 #[.pointer (some ⟨g, 0, none⟩), .int .u64 (n : Int), .int .i64 (size : Int)] w fun e w' =>
      e = .returned (.tuple #[]) ∧ OutIs w' g base (l ++ be n size) ∧ Below base w w' := by
  obtain ⟨i0, hi, hz0, hz1, hz2⟩ := info_parts info8
  go_enter Try.func17, Try.ntmps17
  go_wp2
  go_loopw [6] (fun i wr => ∃ (k : Nat) (pre : List UInt8), k ≤ size ∧ i = .int .i64 (8 * ((k : Int) - 1)) ∧ Hid (pre ++ be n k = be n size) ∧ OutIs wr g base (l ++ pre) ∧ Below base w wr) (fun i _ => (intOf i + 8).toNat)
  case atStart =>
    refine ⟨size, [], Nat.le_refl _, by go_num, rfl, by simpa using hout, Below.refl _ _⟩
  case round =>
    obtain ⟨k, pre, hk, rfl, hpre, ⟨v, hblk, hown⟩, hb⟩ := hrel
    by_cases hlt : 0 < k
    · have hpl : pre.length + k = size := by have := congrArg List.length hpre.out; simpa [be_length] using this
      have c0 := blk_cell hblk 0
      have f0 := blk_frozen hblk 0
      have hgl := blk_lt hblk
      have hsz := hb.size
      have hown2 : ∀ u t, Ow (wr.alloc (.cells #[u] t)).drew base 5 v (byc (l ++ pre)) := fun u t => hown.alloc _
      have hsl2 : ∀ u t, Sl (wr.alloc (.cells #[u] t)).drew (some ⟨wr.heap.size, 0, none⟩) 1 [u] := fun u t => (sl_one wr u t).drew
      have hone : ∀ x : Int, ∀ u ∈ [Value.int .u8 x], u.oneCell' = true := fun x u hu => by rw [List.mem_singleton] at hu; subst hu; rfl
      have hby : ∀ u : Value, ((byc (l ++ pre)).length + [u].length) * 1 ≤ 140737488355328 := fun u => by rw [byc_length, List.length_append]; simp; omega
      have hba : ∀ u t, base ≤ (wr.alloc (.cells #[u] t)).drew.heap.size := fun u t => by show base ≤ (wr.heap.push _).size; rw [Array.size_push]; omega
      have hnext : ∀ u t w', (wr.alloc (.cells #[u] t)).drew.grownBy w' v.ownBlock → w'.heap[g]? = some (.cells #[v] 46) := fun u t w' hg =>
        blk_grown (w := (wr.alloc (.cells #[u] t)).drew) (blk_alloc hblk (.cells #[u] t)) hg (hown.ne_blk hblk (by decide))
      go_wp2
      go_region_law (refine step_append_sl _ rfl (.tmp 18) (.tmp 23) 22 rfl base 5 i0 (.int .u8 0) 1 Try.underlying22 hi hz0 hz1 hz2 rfl v (byc (l ++ pre)) (by simp [Act.eval, Act.put]) (hown2 _ _) (some ⟨wr.heap.size, 0, none⟩) 1 [_] (by simp [Act.eval, Act.put] <;> rfl) (hsl2 _ _) (hone _) (hby _) (by decide) (hba _ _) ?_; intro v' w' hown' hgr hbv; have hblk' := hnext _ _ _ hgr; obtain ⟨A', c', hv, hsl', hbk⟩ := hown'.sl; subst hv; have c1 := blk_cell hblk' 0; have f1 := blk_frozen hblk' 0)
      all_goals go_wp2
      all_goals refine ⟨⟨k - 1, pre ++ [UInt8.ofNat (n / 256 ^ (k - 1))], by omega, by go_num, ?_, ?_, ?_⟩, by simp [intOf]; omega⟩
      all_goals first
        | exact (be_step n k hlt pre).trans hpre.out
        | exact ((hb.alloc (by omega) _).drew.grown hgr (hba _ _) (fun j e => (hown.lt j e).1)).setCell hg _
        | skip
      all_goals
        refine ⟨_, blk_set hblk' 0 _, ?_⟩
        rw [← List.append_assoc, byc_append (l ++ pre), show byc [UInt8.ofNat (n / 256 ^ (k - 1))] = [Value.int .u8 (IntKind.u8.wrap ((n : Int) / 2 ^ (8 * ((k : Int) - 1)).toNat))] by rw [be_byte n k hlt]; rfl]
        simp only [List.length_append, List.length_singleton] at hown'
        exact hown'.far (hown'.ne_blk hblk' (by decide)) _
    · obtain rfl : k = 0 := by omega
      go_wp2
      first | go_end0 | (simp only [Exit.inBlock, Exit.then]; refine bodyPost_ret (results_none rfl _ _ _) rfl ?_)
      have := hpre.out
      simp only [be, List.append_nil] at this
      subst this
      exact ⟨rfl, ⟨v, hblk, hown⟩, hb⟩

theorem out_text_any (l : List UInt8) (s : ByteArray) (g base : Nat) (w : World) (hout : OutIs w g base l) (hg : base ≤ g) (hl : l.length ≤ 900000) (hs : s.size ≤ 3000) :
    Calls Try.prog 18 #[.pointer (some ⟨g, 0, none⟩), .string s] w fun e w' =>
      e = .returned (.tuple #[]) ∧ OutIs w' g base (l ++ be s.size 2 ++ s.data.toList) ∧ Below base w w' := by
  obtain ⟨i0, hi, hz0, hz1, hz2⟩ := info_parts info8
  go_enter Try.func18, Try.ntmps18
  go_wp2_with fail
  refine (out_number_any l s.size 2 g base w hout hg (by omega) (by omega) (by omega) (by omega)).mono ?_
  rintro e w1 ⟨rfl, ⟨v, hblk, hown⟩, hb⟩
  have hcl : Lib.strCells s = byc s.data.toList := rfl
  have c0 := blk_cell hblk 0
  have f0 := blk_frozen hblk 0
  have hgl := blk_lt hblk
  go_wp2_with (at_builtin; refine Lib.wpList_append_own_string w1 rfl _ _ 22 9 rfl base 5 i0 Try.underlying22 Try.underlying9 hi hz0 hz1 hz2 v _ _ rfl hown s rfl ?h1 ?h2 (by omega) ?_)
  case h1 => rw [byc_length, List.length_append, be_length]; unfold maxLen; omega
  case h2 => rw [byc_length, List.length_append, be_length]; omega
  intro v' w2 hown' hgr hnil
  have hown2 : Ow w2 base 5 v' (byc (l ++ be s.size 2 ++ s.data.toList)) := by
    rw [byc_append _ s.data.toList]
    refine ow_of hown' ?_
    rw [List.length_append, byc_length s.data.toList]
    simp
  have hblk2 := blk_grown hblk hgr (hown.ne_blk hblk (by decide))
  clear hown'
  obtain ⟨L, hL⟩ : ∃ L, L = l ++ be s.size 2 ++ s.data.toList := ⟨_, rfl⟩
  rw [← hL] at hown2
  have HL := Lib.hid hL
  clear hL
  obtain ⟨A', c', hv, hsl', hbk⟩ := hown2.sl
  subst hv
  clear c0 f0
  have c1 := blk_cell hblk2 0
  have f1 := blk_frozen hblk2 0
  go_wp2
  first | go_end0 | (simp only [Exit.inBlock, Exit.then]; refine bodyPost_ret (results_none rfl _ _ _) rfl ?_)
  rw [← HL.out]
  refine ⟨rfl, ⟨_, blk_set hblk2 0 _, ?_⟩, (hb.grown hgr (by omega) (fun j e => (hown.lt j e).1)).setCell hg _⟩
  exact hown2.far (a := ⟨g, 0, none⟩) (hown2.ne_blk hblk2 (by decide)) _
end Go.Proofs.Ytdepbaoechnekaa
