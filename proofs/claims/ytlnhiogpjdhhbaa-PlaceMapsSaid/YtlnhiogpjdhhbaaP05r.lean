/- Layer 5, plain: the document's map, by nodes and paths; it is the one that is walked. -/
import Derived.Test.YtlnhiogpjdhhbaaP05
namespace Go.Proofs.Ytlnhiogpjdhhbaa.P
open Go.RowKit Go.Proofs.YtlnhiogpjdhhbaaW.PrintWords Go.Proofs.YtlnhiogpjdhhbaaW.PrintLast Go.Proofs.YtlnhiogpjdhhbaaW.PrintMore
set_option linter.unusedVariables false
abbrev TN := S27
mutual
def nodT : List Int → Nat → TN → List (TN × List Int)
  | up, fr, ⟨k, s, ps, lo, hi⟩ => (⟨k, s, ps, lo, hi⟩, up) :: nodL (up ++ [(fr : Int)]) (fr + 1) ps
def nodL : List Int → Nat → List TN → List (TN × List Int)
  | _, _, [] => []
  | path, fr, p :: ps => nodT path fr p ++ nodL path (fr + cntT p) ps
end
mutual
theorem nodT_len : ∀ (up : List Int) (fr : Nat) (x : TN), (nodT up fr x).length = cntT x
  | up, fr, ⟨k, s, ps, lo, hi⟩ => by
    rw [nodT, cntT, List.length_cons, nodL_len]
    omega
theorem nodL_len : ∀ (path : List Int) (fr : Nat) (ps : List TN), (nodL path fr ps).length = cntL ps
  | path, fr, [] => by rw [nodL, cntL]; rfl
  | path, fr, p :: ps => by rw [nodL, cntL, List.length_append, nodT_len, nodL_len]
end
def numG : Nat → List TN → List Int
  | _, [] => []
  | c, x :: l => (if ctB x = true then (c : Int) else -1) :: numG (if ctB x = true then c + 1 else c) l
def ctN : List TN → Nat
  | [] => 0
  | x :: l => (if ctB x = true then 1 else 0) + ctN l
theorem numG_len (c : Nat) (l : List TN) : (numG c l).length = l.length := by
  induction l generalizing c with
  | nil => rfl
  | cons x l ih => rw [numG, List.length_cons, ih, List.length_cons]
theorem numG_app (c : Nat) (l m : List TN) : numG c (l ++ m) = numG c l ++ numG (c + ctN l) m := by
  induction l generalizing c with
  | nil => rfl
  | cons x l ih =>
    rw [List.cons_append, numG, ih, numG, List.cons_append, ctN]
    congr 3
    split <;> omega
def arN (N : Nat → Int) (path : List Int) : List Int := path.filterMap fun j => if 0 ≤ N j.toNat then some (N j.toNat) else none
theorem arN_snoc (N : Nat → Int) (path : List Int) (j : Int) : arN N (path ++ [j]) = arN N path ++ if 0 ≤ N j.toNat then [N j.toNat] else [] := by
  unfold arN
  rw [List.filterMap_append]
  congr 1
  rw [List.filterMap_cons]
  split
  · rename_i h; split at h
    · cases h
    · rename_i h2; rw [if_neg h2]; rfl
  · rename_i h; split at h
    · rename_i h2; injection h with h; rw [if_pos h2, ← h]; rfl
    · cases h
def posL (q : List (TN × List Int)) : List (TN × List Int) := q.filter fun p => isPos p.1
def colM (N : Nat → Int) (q : List (TN × List Int)) (m : Mp) : Mp :=
  ⟨m.sets ++ (posL q).map fun p => p.1.f1, m.scs ++ ((q.map (·.1)).filter ctB).map scO, m.ars ++ (posL q).map fun p => arN N p.2⟩
theorem colM_app (N : Nat → Int) (q r : List (TN × List Int)) (m : Mp) : colM N (q ++ r) m = colM N r (colM N q m) := by
  unfold colM posL
  simp
theorem ctN_filter (l : List TN) : ctN l = (l.filter ctB).length := by
  induction l with
  | nil => rfl
  | cons x l ih =>
    rw [ctN, List.filter_cons, ih]
    split <;> simp <;> omega
mutual
theorem walk_nod : ∀ (x : TN) (al up : List Int) (fr : Nat) (m : Mp) (N : Nat → Int), (∀ i v, (numG m.scs.length ((nodT up fr x).map (·.1)))[i]? = some v → N (fr + i) = v) → al = arN N up → walkT al x m = colM N (nodT up fr x) m
  | ⟨k, s, ps, lo, hi⟩, al, up, fr, m, N, hN, hal => by
    rw [nodT] at hN ⊢
    rw [List.map_cons, numG] at hN
    have h0 := hN 0 _ rfl
    rw [Nat.add_zero] at h0
    have hm1 : (mp1 al ⟨k, s, ps, lo, hi⟩ m).scs = m.scs := by unfold mp1; split <;> rfl
    have hsc : (mp2 ⟨k, s, ps, lo, hi⟩ (mp1 al ⟨k, s, ps, lo, hi⟩ m)).scs.length = if ctB ⟨k, s, ps, lo, hi⟩ = true then m.scs.length + 1 else m.scs.length := by
      unfold mp2
      split
      · rw [hm1, List.length_append]; rfl
      · rw [hm1]
    have hal2 : al2 al ⟨k, s, ps, lo, hi⟩ m = arN N (up ++ [(fr : Int)]) := by
      rw [arN_snoc, Int.toNat_natCast, h0, ← hal]
      unfold al2
      split
      · rw [if_pos (by omega)]
      · rw [if_neg (by omega), List.append_nil]
    have ih := walk_nodL ps (al2 al ⟨k, s, ps, lo, hi⟩ m) (up ++ [(fr : Int)]) (fr + 1) (mp2 ⟨k, s, ps, lo, hi⟩ (mp1 al ⟨k, s, ps, lo, hi⟩ m)) N (fun i v hv => by
      have := hN (i + 1) v (by rw [List.getElem?_cons_succ, ← hsc]; exact hv)
      rw [← this]
      congr 1
      omega) hal2
    rw [walkT, ih]
    have e1 : colM N [(⟨k, s, ps, lo, hi⟩, up)] m = mp2 ⟨k, s, ps, lo, hi⟩ (mp1 al ⟨k, s, ps, lo, hi⟩ m) := by
      unfold colM posL mp2 mp1
      rw [hal]
      cases h1 : isPos ⟨k, s, ps, lo, hi⟩ <;> cases h2 : ctB ⟨k, s, ps, lo, hi⟩ <;> simp [h1, h2]
    rw [show ((⟨k, s, ps, lo, hi⟩, up) :: nodL (up ++ [(fr : Int)]) (fr + 1) ps) = [(⟨k, s, ps, lo, hi⟩, up)] ++ nodL (up ++ [(fr : Int)]) (fr + 1) ps from rfl, colM_app, e1]
theorem walk_nodL : ∀ (ps : List TN) (al path : List Int) (fr : Nat) (m : Mp) (N : Nat → Int), (∀ i v, (numG m.scs.length ((nodL path fr ps).map (·.1)))[i]? = some v → N (fr + i) = v) → al = arN N path → walkL al ps m = colM N (nodL path fr ps) m
  | [], al, path, fr, m, N, hN, hal => by
    rw [walkL, nodL]
    unfold colM posL
    simp
  | p :: ps, al, path, fr, m, N, hN, hal => by
    rw [nodL] at hN ⊢
    rw [List.map_append, numG_app] at hN
    have h1 := walk_nod p al path fr m N (fun i v hv => hN i v (by
      rw [List.getElem?_append_left (List.getElem?_eq_some_iff.1 hv).1]
      exact hv)) hal
    have hsc : (walkT al p m).scs.length = m.scs.length + ctN ((nodT path fr p).map (·.1)) := by
      rw [h1]
      unfold colM
      rw [List.length_append, List.length_map, ctN_filter]
    have h2 := walk_nodL ps al path (fr + cntT p) (walkT al p m) N (fun i v hv => by
      have := hN (cntT p + i) v (by
        have hl : (numG m.scs.length ((nodT path fr p).map (·.1))).length = cntT p := by rw [numG_len, List.length_map, nodT_len]
        rw [List.getElem?_append_right (by omega), hl, Nat.add_sub_cancel_left, ← hsc]
        exact hv)
      rw [← this]
      congr 1
      omega) hal
    rw [walkL, h2, h1, colM_app]
end
def numO (x : TN) : List Int := numG 0 ((nodT [] 0 x).map (·.1))
def refM (x : TN) : Mp := colM (fun i => (numO x).getD i (-1)) (nodT [] 0 x) ⟨[⟨0, 0, 0, 0⟩], [], [[]]⟩
theorem refM_walk (x : TN) : walkT [] x ⟨[⟨0, 0, 0, 0⟩], [], [[]]⟩ = refM x :=
  walk_nod x [] [] 0 _ _ (fun i v hv => by
    rw [Nat.zero_add]
    show (numO x).getD i (-1) = v
    rw [List.getD_eq_getElem?_getD]
    unfold numO
    rw [show (⟨[⟨0, 0, 0, 0⟩], [], [[]]⟩ : Mp).scs.length = 0 from rfl] at hv
    rw [hv]
    rfl) rfl
end Go.Proofs.Ytlnhiogpjdhhbaa.P
