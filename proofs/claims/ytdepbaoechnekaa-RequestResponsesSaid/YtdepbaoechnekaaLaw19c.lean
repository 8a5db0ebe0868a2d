/- The plain law of the bytes of responses; the walk of the statement RequestAnswers. -/
import Derived.Test.YtdepbaoechnekaaLaw19a
import Derived.Test.YtdepbaoechnekaaRunS
import Derived.Test.YtdepbaoechnekaaRunE
import Derived.Test.YtdepbaoechnekaaRunR
namespace Go.Proofs.Ytdepbaoechnekaa
open Go.RowKit

theorem toU_toI (n : Nat) (h : n < 18446744073709551616) : toU (toI n) = n := by unfold toU toI wrap64; omega
theorem be_1 (n : Nat) : be n 1 = [UInt8.ofNat n] := by simp [be]
theorem rB_app (rs ss : List Rn) (i : Nat) (h : i < rs.length) : rB (rs ++ ss) i = rB rs i ∧ rT (rs ++ ss) i = rT rs i := by
  simp [rB, rT, List.getD, List.getElem?_append_left h]
theorem encRuns_app (rs ss : List Rn) (k : Nat) (h : k ≤ rs.length) : encRuns (rs ++ ss) k = encRuns rs k := by
  induction k with
  | zero => rfl
  | succ k ih =>
    have := rB_app rs ss k (by omega)
    simp only [encRuns, ih (by omega), this]
theorem encRuns_snoc (rs : List Rn) (r : Rn) : encRuns (rs ++ [r]) (rs.length + 1) = encRuns rs rs.length ++ [r.1] ++ be (toU r.2) 8 := by
  rw [encRuns, encRuns_app rs [r] rs.length (Nat.le_refl _)]
  simp [rB, rT, List.getD]
theorem rdRuns_ok {p : RdSt} {k : Nat} (h : (rdRuns p k).2.2 = false) : p.2 = false ∧ p.1 = encRuns (rdRuns p k).1 k ++ (rdRuns p k).2.1 := by
  induction k with
  | zero => exact ⟨h, rfl⟩
  | succ k ih =>
    have h2 : (rdNumR (rdNumR (rdRuns p k).2 1) 8).2 = false := h
    have a2 := rdNum_ok h2
    have a1 := rdNum_ok a2.1
    obtain ⟨i1, i2⟩ := ih a1.1
    refine ⟨i1, ?_⟩
    have hl := rdRuns_length p k
    have e := encRuns_snoc (rdRuns p k).1 (UInt8.ofNat (rdNum (rdRuns p k).2 1), toI (rdNum (rdNumR (rdRuns p k).2 1) 8))
    rw [hl] at e
    have h8 := rdNum_lt (rdNumR (rdRuns p k).2 1) 8
    rw [toU_toI _ (by omega), ← be_1] at e
    show p.1 = encRuns ((rdRuns p k).1 ++ [(UInt8.ofNat (rdNum (rdRuns p k).2 1), toI (rdNum (rdNumR (rdRuns p k).2 1) 8))]) (k + 1) ++ (rdNumR (rdNumR (rdRuns p k).2 1) 8).1
    rw [e]
    conv => lhs; rw [i2, a1.2, a2.2]
    simp only [List.append_assoc]
theorem encR_decR (l : List UInt8) (h : (decR l).ok = true) :
    encR (decR l).E (decR l).P (((decR l).y : Int) == 1) ⟨(decR l).t.toArray⟩ (toI (decR l).N) (decR l).rs = l := by
  simp only [DecR.ok, Bool.and_eq_true, Bool.not_eq_true', decide_eq_true_eq] at h
  obtain ⟨⟨h1, h2⟩, hy, _⟩ := h
  have hy' : [if ((((decR l).y : Int) == 1) = true) then (1 : UInt8) else 0] = be (decR l).y 1 := by
    rw [be_1]
    have : (decR l).y = 0 ∨ (decR l).y = 1 := by omega
    rcases this with e | e <;> rw [e] <;> rfl
  simp only [encR, hy']
  simp only [decR] at h1 h2 ⊢
  have a7 := rdRuns_ok h1
  have a6 := rdNum_ok a7.1
  have a5 := rdNum_ok a6.1
  have a4 := rdText_ok a5.1
  have a3 := rdNum_ok a4.1
  have a2 := rdNum_ok a3.1
  have a1 := rdNum_ok a2.1
  have e7 := a7.2
  rw [h2, List.append_nil] at e7
  have h8 := rdNum_lt (rdTextR (rdNumR (rdNumR (rdNumR (l, false) 1) 2) 1)) 8
  rw [toU_toI _ (by omega), rdRuns_length, bsize, ← be_1, ← be_1, ← e7]
  conv => rhs; rw [show l = (l, false).1 from rfl, a1.2, a2.2, a3.2, a4.2, a5.2, a6.2]
  simp only [List.append_assoc]

set_option maxHeartbeats 1000000 in
theorem answers_any (l : List UInt8) (A : Option Addr) (c : Nat) (w : World) (hs : Sl w A c (byc l)) :
    Calls Try.prog 5 #[.slice A l.length c] w fun e w' => e = .returned (.bool true) ∧ Below w.heap.size w w' := by
  have hcap := hs.cap
  have hmax := hs.max
  rw [byc_length] at hcap
  go_enter Try.func5, Try.ntmps5
  go_wp2_with fail
  refine (awake_any w).mono ?_
  rintro e w1 ⟨rfl, hb1⟩
  by_cases hlen : 3000 < l.length
  · go_wp2_with fail
    refine (awake_any w1).mono ?_
    rintro e w2 ⟨rfl, hb2⟩
    go_wp2
    go_ret
    exact ⟨rfl, below_tr hb1 hb1.size hb2⟩
  · have hs1 := hs.below hb1
    go_wp2_with fail
    refine (decodeR_any l A c w1 hs1 (by omega)).mono ?_
    rintro e w2 ⟨hb2, h⟩
    have hbb := below_tr hb1 hb1.size hb2
    have hs2 := hs1.below hb2
    rcases h with ⟨hok, A', c', rfl, hsR⟩ | ⟨hok, rfl⟩
    · have henc := encR_decR l hok
      have hF : runsOk (decR l).rs = true := by
        simp only [DecR.ok, Bool.and_eq_true] at hok
        exact hok.2.2
      have hE : (decR l).E < 256 := rdNum_lt _ 1
      have hP : (decR l).P < 65536 := rdNum_lt _ 2
      have ht : (ByteArray.mk (decR l).t.toArray).size < 65536 := by
        rw [bsize]
        have h1 : (decR l).t.length ≤ rdNum (rdNumR (rdNumR (rdNumR (l, false) 1) 2) 1) 2 := by
          show (tk _ _ _).length ≤ _
          unfold tk; split
          · simp
          · rw [List.length_take]; omega
        have h2 := rdNum_lt (rdNumR (rdNumR (rdNumR (l, false) 1) 2) 1) 2
        omega
      have hT : ∀ i, I64 (rT (decR l).rs i) := rT_I64 (rdRuns_I64 _ _)
      generalize decR l = d at henc hF hsR hok hE hP ht hT ⊢
      obtain ⟨E, P, y, t, N, rs, p⟩ := d
      clear hok
      dsimp only at henc hF hsR hE hP ht hT ⊢
      have He := Lib.hid henc
      clear henc
      have hN := toI_64 N
      generalize toI N = M at He hN ⊢
      generalize ((y : Int) == 1) = yb at He ⊢
      go_wp2_with fail
      refine (refResp_any E P M yb ⟨t.toArray⟩ rs A' c' _ (hsR.alloc _) hT hE hP ht hN hF).mono ?_
      rintro e w3 ⟨A3, c3, rfl, hs3, hb3⟩
      have hs2' := (hs2.alloc _).below hb3
      rw [He.out] at hs3 ⊢
      have k1 := sl_string hs3
      have k2 := sl_string hs2'
      go_wp2
      go_ret
      exact ⟨rfl, below_step (hbb.alloc hbb.size _) hb3 (by have := hbb.size; simp; omega)⟩
    · go_wp2_with fail
      refine (sameResp_any 0 0 0 false ⟨#[]⟩ [] none none 0 0 _ (Rs.none_ _) (Rs.none_ _)).mono ?_
      rintro e w3 ⟨rfl, hb3⟩
      go_wp2
      go_ret
      exact ⟨rfl, below_step (hbb.alloc hbb.size _) hb3 (by have := hbb.size; simp; omega)⟩
end Go.Proofs.Ytdepbaoechnekaa
