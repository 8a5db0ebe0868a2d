/- Plain laws of trees: places and depth, and CoreAgain's facts. -/
import Derived.Test.YtgcgijmjlnhdnaaT04g
import Derived.Test.YtgcgijmjlnhdnaaT04h
import Derived.Test.YtgcgijmjlnhdnaaPxP
import Derived.Test.YtgcgijmjlnhdnaaPxD
namespace Go.Proofs.Ytgcgijmjlnhdnaa.P
open Go.RowKit Go.Proofs.YtgcgijmjlnhdnaaW.PrintWords Go.Proofs.YtgcgijmjlnhdnaaW.PrintLast Go.Proofs.YtgcgijmjlnhdnaaW.PrintMore
set_option linter.unusedVariables false
set_option linter.unusedSimpArgs false
mutual
theorem placesT_le : ∀ x : S27, placesT x ≤ cntT x
  | ⟨k, s, ps, lo, hi⟩ => by
    have := placesL_le ps
    rw [placesT, cntT]
    split <;> omega
theorem placesL_le : ∀ l : List S27, placesL l ≤ cntL l
  | [] => by simp [placesL, cntL]
  | p :: ps => by
    have h1 := placesT_le p
    have h2 := placesL_le ps
    rw [placesL, cntL]
    omega
end
mutual
theorem depthT_le : ∀ x : S27, depthT x ≤ cntT x
  | ⟨k, s, ps, lo, hi⟩ => by
    have := depthL_le ps
    rw [depthT, cntT]
    omega
theorem depthL_le : ∀ l : List S27, depthL l ≤ cntL l
  | [] => by simp [depthL, cntL]
  | p :: ps => by
    have h1 := depthT_le p
    have h2 := depthL_le ps
    rw [depthL, cntL]
    omega
end
abbrev placesF (k : Nat) (x : S27) : Option Int := ostinatoref02_Places.f k x.f0 x.f1.f0 x.f1.f1 x.f1.f2 x.f1.f3 x.f2 x.f3 x.f4
abbrev depthF (k : Nat) (x : S27) : Option Int := ostinatoref02_Depth.f k x.f0 x.f1.f0 x.f1.f1 x.f1.f2 x.f1.f3 x.f2 x.f3 x.f4
theorem places_ev (n : Nat) : ∀ (x : S27), cntT x < n → cntT x ≤ 1000000 → Ev (fun k => placesF k x) (placesT x : Int) := by
  induction n with
  | zero => intro x h; omega
  | succ n ih =>
    intro x hn hc
    obtain ⟨a, ⟨b0, b1, b2, b3⟩, ps, lo, hi⟩ := x
    rw [cntT] at hn hc
    have hll := len_le_cntL ps
    have loop : ∀ (d i v : Nat), ps.length - i = d → i ≤ ps.length → v + placesL (ps.drop i) ≤ 2000000 → Ev (fun k => ostinatoref02_Places.l0 k (v : Int) (i : Int) a b0 b1 b2 b3 ps lo hi) ((v + placesL (ps.drop i) : Nat) : Int) := by
      intro d
      induction d with
      | zero =>
        intro i v hd hile hv
        refine Ev.step (f := fun _ => some (v : Int)) (fun k => ?_) (by rw [show i = ps.length by omega, List.drop_length]; simpa [placesL] using Ev.now _)
        simp only [ostinatoref02_Places.l0]
        rw [if_neg (by omega)]
      | succ d ihd =>
        intro i v hd hile hv
        have hlt : i < ps.length := by omega
        have hmem := List.getElem_mem hlt
        have hcm := cntL_mem hmem
        have hp1 := ih ps[i] (by omega) (by omega)
        rw [dropN ps i hlt, placesL] at hv ⊢
        have hr := ihd (i + 1) (v + placesT ps[i]) (by omega) (by omega) (by omega)
        rw [show v + (placesT ps[i] + placesL (ps.drop (i + 1))) = v + placesT ps[i] + placesL (ps.drop (i + 1)) by omega]
        refine Ev.step (f := fun k => (placesF k ps[i]).bind fun t => ostinatoref02_Places.l0 k (wrap64 ((v : Int) + t)) ((i + 1 : Nat) : Int) a b0 b1 b2 b3 ps lo hi) (fun k => ?_) (Ev.bind hp1 ?_)
        · simp only [ostinatoref02_Places.l0]
          rw [if_pos (by omega), if_pos (by omega), rdN ps i hlt, wrapS i (by omega)]
        · rw [wrapI (by omega) (by omega), ← Int.natCast_add]; exact hr
    have hpl := placesL_le ps
    refine Ev.step (f := fun k => ostinatoref02_Places.j0 k ((if a = 1 then 1 else 0 : Nat) : Int) a b0 b1 b2 b3 ps lo hi) (fun k => ?_) ?_
    · simp only [placesF, ostinatoref02_Places.f]
      by_cases h1 : a = 1
      · rw [if_pos h1, if_pos h1]; rfl
      · rw [if_neg h1, if_neg h1]; rfl
    · rw [placesT]
      have h0 : (if a = 1 then 1 else 0 : Nat) ≤ 1 := by split <;> omega
      generalize (if a = 1 then 1 else 0 : Nat) = v at h0
      refine Ev.step (fun k => by simp only [ostinatoref02_Places.j0]; rfl) ?_
      have := loop ps.length 0 v (by omega) (by omega) (by rw [List.drop_zero]; omega)
      rwa [List.drop_zero] at this
theorem depth_ev (n : Nat) : ∀ (x : S27), cntT x < n → cntT x ≤ 1000000 → Ev (fun k => depthF k x) (depthT x : Int) := by
  induction n with
  | zero => intro x h; omega
  | succ n ih =>
    intro x hn hc
    obtain ⟨a, ⟨b0, b1, b2, b3⟩, ps, lo, hi⟩ := x
    rw [cntT] at hn hc
    have hll := len_le_cntL ps
    have hdl := depthL_le ps
    have loop : ∀ (d i v : Nat), ps.length - i = d → i ≤ ps.length → max v (depthL (ps.drop i)) ≤ 2000000 → Ev (fun k => ostinatoref02_Depth.l0 k (v : Int) (i : Int) a b0 b1 b2 b3 ps lo hi) ((max v (depthL (ps.drop i)) + 1 : Nat) : Int) := by
      intro d
      induction d with
      | zero =>
        intro i v hd hile hv
        rw [show ps.drop i = [] by rw [show i = ps.length by omega, List.drop_length]] at hv ⊢
        rw [depthL] at hv ⊢
        refine Ev.step (f := fun _ => some ((v + 1 : Nat) : Int)) (fun k => ?_) (by rw [Nat.max_zero]; exact Ev.now _)
        simp only [ostinatoref02_Depth.l0]
        rw [if_neg (by omega), wrapS v (by omega)]
      | succ d ihd =>
        intro i v hd hile hv
        have hlt : i < ps.length := by omega
        have hmem := List.getElem_mem hlt
        have hcm := cntL_mem hmem
        have hp1 := ih ps[i] (by omega) (by omega)
        rw [dropN ps i hlt, depthL] at hv ⊢
        have hr := ihd (i + 1) (max v (depthT ps[i])) (by omega) (by omega) (by omega)
        rw [show max v (max (depthT ps[i]) (depthL (ps.drop (i + 1)))) = max (max v (depthT ps[i])) (depthL (ps.drop (i + 1))) by omega]
        refine Ev.step (f := fun k => (depthF k ps[i]).bind fun t => ostinatoref02_Depth.l0 k (mx (v : Int) t) ((i + 1 : Nat) : Int) a b0 b1 b2 b3 ps lo hi) (fun k => ?_) (Ev.bind hp1 ?_)
        · simp only [ostinatoref02_Depth.l0]
          rw [if_pos (by omega), if_pos (by omega), rdN ps i hlt, wrapS i (by omega)]
        · rw [show mx (v : Int) (depthT ps[i] : Int) = ((max v (depthT ps[i]) : Nat) : Int) by unfold mx; split <;> omega]; exact hr
    refine Ev.step (f := fun k => ostinatoref02_Depth.l0 k ((0 : Nat) : Int) ((0 : Nat) : Int) a b0 b1 b2 b3 ps lo hi) (fun k => by simp only [depthF, ostinatoref02_Depth.f]; rfl) ?_
    have := loop ps.length 0 0 (by omega) (by omega) (by rw [List.drop_zero]; omega)
    rw [List.drop_zero, Nat.zero_max] at this
    rw [depthT]
    exact this
section
variable (x : S27) (A : Option Addr) (c : Nat) (w : World)
theorem tr_places (hc : cntT x ≤ 1000000) (h : Tr w x A c) : Calls Try.prog 17 #[ndV x A c] w fun e w' => e = .returned (.int .i64 (placesT x : Int)) ∧ Below w.heap.size w w' := by
  obtain ⟨k, hk⟩ := (places_ev _ x (Nat.lt_succ_self _) hc).rounds
  exact ostinatoref02_Places.calls k _ _ _ _ _ A c _ _ _ _ w h.row h.cap hk
theorem tr_depth (hc : cntT x ≤ 1000000) (h : Tr w x A c) : Calls Try.prog 18 #[ndV x A c] w fun e w' => e = .returned (.int .i64 (depthT x : Int)) ∧ Below w.heap.size w w' := by
  obtain ⟨k, hk⟩ := (depth_ev _ x (Nat.lt_succ_self _) hc).rounds
  exact ostinatoref02_Depth.calls k _ _ _ _ _ A c _ _ _ _ w h.row h.cap hk
end
/-- What CoreAgain says of a tree, told of trees. -/
theorem again_facts (x : S27) (h : formedT x = true) : formedT (simpleT x) = true ∧ simpleT (simpleT x) = simpleT x ∧ voidT (simpleT x) = voidT x ∧ nullT (simpleT x) = nullT x ∧ (voidT x = false → placesT (simpleT x) ≤ placesT x) ∧ depthT (simpleT x) ≤ depthT x := by
  cases hv : voidT x with
  | true =>
    rw [simple_void hv, simple_vT, void_vT, null_vT, depth_vT]
    have := depthT_eq x
    refine ⟨formed_vT, rfl, rfl, (void_null _ x (Nat.lt_succ_self _) h hv).symm, ?_, by omega⟩
    intro h; cases h
  | false =>
    obtain ⟨a, b, c, d⟩ := simple_good _ x (Nat.lt_succ_self _) h hv
    exact ⟨(lean_formed a).1, simple_lean a, (lean_formed a).2, b, fun _ => c, d⟩
end Go.Proofs.Ytgcgijmjlnhdnaa.P
