/- The plain law: what is written of a response is read again. -/
import Derived.Test.YtdepbaoechnekaaLaw19c
namespace Go.Proofs.Ytdepbaoechnekaa
open Go.RowKit

theorem toI_toU (x : Int) (h : I64 x) : toI (toU x) = x := by unfold I64 at h; unfold toI toU wrap64; omega
theorem one_be (b : UInt8) : [b] = be b.toNat 1 := by rw [be_1, UInt8.ofNat_toNat]
theorem rdRuns_app (rs : List Rn) (hT : ∀ i, I64 (rT rs i)) (k : Nat) (h : k ≤ rs.length) (r : List UInt8) : rdRuns (encRuns rs k ++ r, false) k = (rs.take k, (r, false)) := by
  induction k generalizing r with
  | zero => simp [encRuns, rdRuns]
  | succ k ih =>
    have hk : k < rs.length := by omega
    have i1 := ih (by omega) ([rB rs k] ++ (be (toU (rT rs k)) 8 ++ r))
    have e : encRuns rs (k + 1) ++ r = encRuns rs k ++ ([rB rs k] ++ (be (toU (rT rs k)) 8 ++ r)) := by simp [encRuns]
    have hb := (rB rs k).toNat_lt
    have hu := toU_lt (rT rs k)
    rw [e, rdRuns, i1]
    simp only [one_be, rdNum_app (rB rs k).toNat 1 (by omega), rdNum_app (toU (rT rs k)) 8 (by omega), toI_toU _ (hT k), UInt8.ofNat_toNat]
    have et : rs.take (k + 1) = rs.take k ++ [(rB rs k, rT rs k)] := by
      have ep : (rB rs k, rT rs k) = rs[k] := by simp [rB, rT, List.getD, List.getElem?_eq_getElem hk]
      rw [List.take_add_one, List.getElem?_eq_getElem hk, ep]
      rfl
    rw [et]
theorem decR_encR (E P : Nat) (y : Bool) (t : ByteArray) (N : Int) (rs : List Rn) (hE : E < 256) (hP : P < 65536) (ht : t.size < 65536) (hl : rs.length < 256) (hT : ∀ i, I64 (rT rs i)) :
    decR (encR E P y t N rs) = ⟨E, P, (if y then 1 else 0), t.data.toList, toU N, rs, ([], false)⟩ := by
  have et : t.data.toList.length = t.size := by simp
  have ey : [if y then (1 : UInt8) else 0] = be (if y then 1 else 0) 1 := by rw [be_1]; cases y <;> rfl
  have hy : (if y then 1 else 0 : Nat) < 256 ^ 1 := by split <;> omega
  have hu := toU_lt N
  have e : encR E P y t N rs = be E 1 ++ (be P 2 ++ (be (if y then 1 else 0) 1 ++ (be t.data.toList.length 2 ++ (t.data.toList ++ (be (toU N) 8 ++ (be rs.length 1 ++ (encRuns rs rs.length ++ []))))))) := by
    rw [et]
    simp only [encR, ey, be_1 E, be_1 rs.length, List.append_assoc, List.append_nil]
  rw [e]
  simp only [decR, rdNum_app E 1 (by omega), rdNum_app P 2 (by omega), rdNum_app _ 1 hy, rdText_app t.data.toList _ (by omega), rdNum_app (toU N) 8 (by omega), rdNum_app rs.length 1 (by omega), rdRuns_app rs hT rs.length (Nat.le_refl _), List.take_length]
end Go.Proofs.Ytdepbaoechnekaa
