/- Layer 5: what the reference's Nodes comes to (over the print). -/
import Derived.Test.YtlnhiogpjdhhbaaP05r
import Derived.Test.YtlnhiogpjdhhbaaPx22
namespace Go.Proofs.Ytlnhiogpjdhhbaa.P
open Go.RowKit Go.Proofs.YtlnhiogpjdhhbaaW.PrintWords Go.Proofs.YtlnhiogpjdhhbaaW.PrintLast Go.Proofs.YtlnhiogpjdhhbaaW.PrintMore
set_option linter.unusedVariables false
theorem nodL_app (path : List Int) (fr : Nat) (a b : List TN) : nodL path fr (a ++ b) = nodL path fr a ++ nodL path (fr + cntL a) b := by
  induction a generalizing fr with
  | nil => simp [nodL, cntL]
  | cons p a ih => rw [List.cons_append, nodL, ih, nodL, cntL, List.append_assoc, Nat.add_assoc]
abbrev nodesF (k : Nat) (x : TN) (up : List Int) (fr : Int) : Option (List TN × List (List Int)) := ostinatoref05_Nodes.f k x.f0 x.f1.f0 x.f1.f1 x.f1.f2 x.f1.f3 x.f2 x.f3 x.f4 up fr
theorem cnt_pos (x : TN) : 1 ≤ cntT x := by cases x; rw [cntT]; omega
theorem len_cnt (l : List TN) : l.length ≤ cntL l := by
  induction l with
  | nil => simp
  | cons p l ih => rw [cntL, List.length_cons]; have := cnt_pos p; omega
theorem cnt_take (ps : List TN) (i : Nat) (h : i < ps.length) : cntL (ps.take i) + cntT ps[i] ≤ cntL ps := by
  have h1 : cntL (ps.take (i + 1)) = cntL (ps.take i) + cntT ps[i] := by
    rw [List.take_succ_eq_append_getElem h, cntL_append, cntL, cntL]; omega
  have h2 := congrArg cntL (List.take_append_drop (i + 1) ps)
  rw [cntL_append] at h2
  omega
theorem nodes_ev (n : Nat) : ∀ (x : TN) (up : List Int) (fr : Nat), SizeOf.sizeOf x < n → up.length + cntT x ≤ 1000000 → fr + cntT x ≤ 1000000 → Ev (fun k => nodesF k x up (fr : Int)) ((nodT up fr x).map (·.1), (nodT up fr x).map (·.2)) := by
  induction n with
  | zero => intro x up fr h; omega
  | succ n ih =>
    intro x up fr hn hu hf
    obtain ⟨a, ⟨b0, b1, b2, b3⟩, ps, lo, hi⟩ := x
    have hcx : cntT ⟨a, ⟨b0, b1, b2, b3⟩, ps, lo, hi⟩ = 1 + cntL ps := by rw [cntT]
    rw [hcx] at hu hf
    clear hcx
    have hm : ∀ p ∈ ps, SizeOf.sizeOf p < n := fun p hp => by have := mem_lt (t := ⟨a, ⟨b0, b1, b2, b3⟩, ps, lo, hi⟩) hp; omega
    have ih2 : ∀ p ∈ ps, ∀ (up : List Int) (fr : Nat), up.length + cntT p ≤ 1000000 → fr + cntT p ≤ 1000000 → Ev (fun k => nodesF k p up (fr : Int)) ((nodT up fr p).map (·.1), (nodT up fr p).map (·.2)) := fun p hp up fr => ih p up fr (hm p hp)
    clear hn ih hm
    have hpl := len_cnt ps
    have loop : ∀ (d i : Nat), ps.length - i = d → i ≤ ps.length → Ev (fun k => ostinatoref05_Nodes.l0 k up (fr : Int) (⟨a, ⟨b0, b1, b2, b3⟩, ps, lo, hi⟩ :: (nodL (up ++ [(fr : Int)]) (fr + 1) (ps.take i)).map (·.1)) (up :: (nodL (up ++ [(fr : Int)]) (fr + 1) (ps.take i)).map (·.2)) (i : Int) a b0 b1 b2 b3 ps lo hi)
        ((nodT up fr ⟨a, ⟨b0, b1, b2, b3⟩, ps, lo, hi⟩).map (·.1), (nodT up fr ⟨a, ⟨b0, b1, b2, b3⟩, ps, lo, hi⟩).map (·.2)) := by
      intro d
      induction d with
      | zero =>
        intro i hd hi'
        have e : ps.take i = ps := List.take_of_length_le (by omega)
        rw [e]
        refine Ev.step (f := fun _ => some ((nodT up fr ⟨a, ⟨b0, b1, b2, b3⟩, ps, lo, hi⟩).map (·.1), (nodT up fr ⟨a, ⟨b0, b1, b2, b3⟩, ps, lo, hi⟩).map (·.2))) (fun k => ?_) (Ev.now _)
        simp only [ostinatoref05_Nodes.l0]
        rw [if_neg (by omega), nodT]
        rfl
      | succ d ihd =>
        intro i hd hi'
        have hlt : i < ps.length := by omega
        have a1 : (i : Int) < (ps.length : Int) := by omega
        have a2 : ([] : List Int).length + up.length < 17592186044416 := by rw [List.length_nil]; omega
        have a3 : up.length < 17592186044416 := by omega
        have a4 : (0 : Int) ≤ (i : Int) := by omega
        have hct := cnt_take ps i hlt
        have hpi := cnt_pos ps[i]
        have l1 : ((nodL (up ++ [(fr : Int)]) (fr + 1) (ps.take i)).map (·.1)).length = cntL (ps.take i) := by rw [List.length_map, nodL_len]
        have l2 : ((nodL (up ++ [(fr : Int)]) (fr + 1) (ps.take i)).map (·.2)).length = cntL (ps.take i) := by rw [List.length_map, nodL_len]
        have l3 : ((nodT (up ++ [(fr : Int)]) (fr + 1 + cntL (ps.take i)) ps[i]).map (·.1)).length = cntT ps[i] := by rw [List.length_map, nodT_len]
        have l4 : ((nodT (up ++ [(fr : Int)]) (fr + 1 + cntL (ps.take i)) ps[i]).map (·.2)).length = cntT ps[i] := by rw [List.length_map, nodT_len]
        have hp := ih2 ps[i] (List.getElem_mem hlt) (up ++ [(fr : Int)]) (fr + 1 + cntL (ps.take i)) (by rw [List.length_append]; simp; omega) (by omega)
        have hq := ihd (i + 1) (by omega) (by omega)
        have hn1 : nodL (up ++ [(fr : Int)]) (fr + 1) (ps.take (i + 1)) = nodL (up ++ [(fr : Int)]) (fr + 1) (ps.take i) ++ nodT (up ++ [(fr : Int)]) (fr + 1 + cntL (ps.take i)) ps[i] := by
          rw [List.take_succ_eq_append_getElem hlt, nodL_app, nodL, nodL, List.append_nil]
        rw [hn1, List.map_append, List.map_append] at hq
        generalize (nodL (up ++ [(fr : Int)]) (fr + 1) (ps.take i)).map (·.1) = u1 at *
        generalize (nodL (up ++ [(fr : Int)]) (fr + 1) (ps.take i)).map (·.2) = u2 at *
        have hw1 : wrap64 ((fr : Int) + (((⟨a, ⟨b0, b1, b2, b3⟩, ps, lo, hi⟩ : TN) :: u1).length : Int)) = ((fr + 1 + cntL (ps.take i) : Nat) : Int) := by
          rw [List.length_cons, l1, wrapI (by omega) (by omega)]
          omega
        have hw2 : wrap64 ((i : Int) + 1) = ((i + 1 : Nat) : Int) := by rw [wrapI (by omega) (by omega)]; omega
        refine Ev.step (f := fun k => (nodesF k ps[i] (up ++ [(fr : Int)]) ((fr + 1 + cntL (ps.take i) : Nat) : Int)).bind fun bt => if (((⟨a, ⟨b0, b1, b2, b3⟩, ps, lo, hi⟩ : TN) :: u1).length + bt.1.length < 1759218604441) then (if ((up :: u2).length + bt.2.length < 5864062014805) then ostinatoref05_Nodes.l0 k up (fr : Int) (((⟨a, ⟨b0, b1, b2, b3⟩, ps, lo, hi⟩ : TN) :: u1) ++ bt.1) ((up :: u2) ++ bt.2) ((i + 1 : Nat) : Int) a b0 b1 b2 b3 ps lo hi else none) else none) (fun k => ?_) (Ev.bind hp ?_)
        · simp only [ostinatoref05_Nodes.l0]
          rw [if_pos a1, Option.bind_some, if_pos a2, Option.bind_some, List.nil_append, if_pos a3, if_pos a4, rdN ps i hlt, hw1, hw2]
        · have c1 : ((⟨a, ⟨b0, b1, b2, b3⟩, ps, lo, hi⟩ : TN) :: u1).length + ((nodT (up ++ [(fr : Int)]) (fr + 1 + cntL (ps.take i)) ps[i]).map (·.1)).length < 1759218604441 := by rw [List.length_cons, l1, l3]; omega
          have c2 : (up :: u2).length + ((nodT (up ++ [(fr : Int)]) (fr + 1 + cntL (ps.take i)) ps[i]).map (·.2)).length < 5864062014805 := by rw [List.length_cons, l2, l4]; omega
          dsimp only
          simp only [if_pos c1, if_pos c2]
          exact hq
    have h0 := loop ps.length 0 (by omega) (by omega)
    rw [List.take_zero, nodL] at h0
    refine Ev.step (f := fun k => ostinatoref05_Nodes.l0 k up (fr : Int) [⟨a, ⟨b0, b1, b2, b3⟩, ps, lo, hi⟩] [up] 0 a b0 b1 b2 b3 ps lo hi) (fun k => ?_) h0
    simp only [nodesF, ostinatoref05_Nodes.f]
end Go.Proofs.Ytlnhiogpjdhhbaa.P
