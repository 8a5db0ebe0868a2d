/- Plain laws of trees: the reference's Same. -/
import Derived.Test.YtgcgijmjlnhdnaaU04a
import Derived.Test.YtgcgijmjlnhdnaaP04s
namespace Go.Proofs.Ytgcgijmjlnhdnaa.P
open Go.RowKit Go.Proofs.YtgcgijmjlnhdnaaW.PrintWords Go.Proofs.YtgcgijmjlnhdnaaW.PrintLast Go.Proofs.YtgcgijmjlnhdnaaW.PrintMore
set_option linter.unusedVariables false
set_option linter.unusedSimpArgs false
/-! #### the same -/
abbrev sameF (k : Nat) (x y : S27) : Option Bool := ostinatoref02_Same.f k x.f0 x.f1.f0 x.f1.f1 x.f1.f2 x.f1.f3 x.f2 x.f3 x.f4 y.f0 y.f1.f0 y.f1.f1 y.f1.f2 y.f1.f3 y.f2 y.f3 y.f4
theorem refSame_ev (n : Nat) : ∀ (x y : S27), cntT x < n → cntT x ≤ 1000000 → Ev (fun k => sameF k x y) (sameT x y) := by
  induction n with
  | zero => intro x y h; omega
  | succ n ih =>
    intro x y hn hc
    obtain ⟨a, ⟨b0, b1, b2, b3⟩, ps, lo, hi⟩ := x
    obtain ⟨a', ⟨c0, c1, c2, c3⟩, qs, lo', hi'⟩ := y
    rw [cntT] at hn hc
    have hs : sameT ⟨a, ⟨b0, b1, b2, b3⟩, ps, lo, hi⟩ ⟨a', ⟨c0, c1, c2, c3⟩, qs, lo', hi'⟩ = (a == a' && (b0 == c0 && (b1 == c1 && (b2 == c2 && b3 == c3))) && lo == lo' && hi == hi' && sameL ps qs) := by rw [sameT]
    have bad : sameT ⟨a, ⟨b0, b1, b2, b3⟩, ps, lo, hi⟩ ⟨a', ⟨c0, c1, c2, c3⟩, qs, lo', hi'⟩ = false → Ev (fun k => ostinatoref02_Same.j0 k true a b0 b1 b2 b3 ps lo hi a' c0 c1 c2 c3 qs lo' hi') (sameT ⟨a, ⟨b0, b1, b2, b3⟩, ps, lo, hi⟩ ⟨a', ⟨c0, c1, c2, c3⟩, qs, lo', hi'⟩) := by
      intro h
      rw [h]
      exact Ev.step (f := fun _ => some false) (fun k => by simp [ostinatoref02_Same.j0]) (Ev.now false)
    have loop : ps.length = qs.length → ∀ (d i : Nat), ps.length - i = d → i ≤ ps.length → Ev (fun k => ostinatoref02_Same.l0 k (i : Int) a b0 b1 b2 b3 ps lo hi a' c0 c1 c2 c3 qs lo' hi') (sameL (ps.drop i) (qs.drop i)) := by
      intro hl d
      induction d with
      | zero =>
        intro i hd hile
        refine Ev.step (f := fun _ => some true) (fun k => ?_) (by rw [show i = ps.length by omega, List.drop_length, hl, List.drop_length]; simpa [sameL] using Ev.now true)
        simp only [ostinatoref02_Same.l0]
        rw [if_neg (by omega)]
      | succ d ihd =>
        intro i hd hile
        have hlt : i < ps.length := by omega
        have hlq : i < qs.length := by omega
        have hp := ih ps[i] qs[i] (by have := cntL_mem (List.getElem_mem hlt); omega) (by have := cntL_mem (List.getElem_mem hlt); omega)
        have hr := ihd (i + 1) (by omega) (by omega)
        refine Ev.step (f := fun k => (sameF k ps[i] qs[i]).bind fun t => if t = true then ostinatoref02_Same.l0 k ((i + 1 : Nat) : Int) a b0 b1 b2 b3 ps lo hi a' c0 c1 c2 c3 qs lo' hi' else some false) (fun k => ?_) (Ev.bind hp ?_)
        · simp only [ostinatoref02_Same.l0]
          rw [if_pos (by omega), if_pos (by omega), if_pos (by omega), rdN ps i hlt, rdN qs i hlq, wrapS i (by have := len_le_cntL ps; omega)]
        · rw [dropN ps i hlt, dropN qs i hlq, sameL]
          cases sameT ps[i] qs[i] with
          | true => simpa using hr
          | false => simpa using Ev.now false
    by_cases k0 : a = a'
    · by_cases k1 : (b0 == c0 && (b1 == c1 && (b2 == c2 && b3 == c3))) = true
      · have k1' : (!(b0 == c0) || (!(b1 == c1) || (!(b2 == c2) || (!(b3 == c3))))) = false := by
          simp only [Bool.and_eq_true] at k1; simp [k1]
        by_cases k2 : lo = lo'
        · by_cases k3 : hi = hi'
          · by_cases hl : ps.length = qs.length
            · have hq := loop hl ps.length 0 (by omega) (by omega)
              rw [hs]
              refine Ev.step (f := fun k => ostinatoref02_Same.j0 k ((ps.length : Int) != (qs.length : Int)) a b0 b1 b2 b3 ps lo hi a' c0 c1 c2 c3 qs lo' hi') (fun k => by simp [sameF, ostinatoref02_Same.f, k0, k1', k2, k3]) ?_
              refine Ev.step (f := fun k => ostinatoref02_Same.l0 k ((0 : Nat) : Int) a b0 b1 b2 b3 ps lo hi a' c0 c1 c2 c3 qs lo' hi') (fun k => by simp [ostinatoref02_Same.j0, hl]) ?_
              simpa [k0, k1, k2, k3] using hq
            · refine Ev.step (f := fun k => ostinatoref02_Same.j0 k true a b0 b1 b2 b3 ps lo hi a' c0 c1 c2 c3 qs lo' hi') (fun k => ?_) (bad (by rw [hs, sameL_len ps qs hl]; simp))
              have : ((ps.length : Int) != (qs.length : Int)) = true := by simp; omega
              simp [sameF, ostinatoref02_Same.f, k0, k1', k2, k3, this]
          · refine Ev.step (f := fun k => ostinatoref02_Same.j0 k true a b0 b1 b2 b3 ps lo hi a' c0 c1 c2 c3 qs lo' hi') (fun k => ?_) (bad (by rw [hs]; simp [k3]))
            simp [sameF, ostinatoref02_Same.f, k0, k1', k2, k3]
        · refine Ev.step (f := fun k => ostinatoref02_Same.j0 k true a b0 b1 b2 b3 ps lo hi a' c0 c1 c2 c3 qs lo' hi') (fun k => ?_) (bad (by rw [hs]; simp [k2]))
          simp [sameF, ostinatoref02_Same.f, k0, k1', k2]
      · have k1' : (!(b0 == c0) || (!(b1 == c1) || (!(b2 == c2) || (!(b3 == c3))))) = true := by
          have := Bool.eq_false_iff.2 k1
          cases h0 : b0 == c0 <;> cases h1 : b1 == c1 <;> cases h2 : b2 == c2 <;> cases h3 : b3 == c3 <;> simp_all
        refine Ev.step (f := fun k => ostinatoref02_Same.j0 k true a b0 b1 b2 b3 ps lo hi a' c0 c1 c2 c3 qs lo' hi') (fun k => ?_) (bad (by rw [hs, Bool.eq_false_iff.2 k1]; simp))
        simp only [sameF, ostinatoref02_Same.f]
        rw [if_pos k0, if_pos k1']
    · refine Ev.step (f := fun k => ostinatoref02_Same.j0 k true a b0 b1 b2 b3 ps lo hi a' c0 c1 c2 c3 qs lo' hi') (fun k => ?_) (bad (by rw [hs]; simp [k0]))
      simp [sameF, ostinatoref02_Same.f, k0]

end Go.Proofs.Ytgcgijmjlnhdnaa.P
