/- The chapter's simple tree is the core's. -/
import Derived.Test.YtlnhiogpjdhhbaaM05
import Derived.Test.YtlnhiogpjdhhbaaPxS
namespace Go.Proofs.Ytlnhiogpjdhhbaa.P
open Go.RowKit Go.Proofs.YtlnhiogpjdhhbaaW.PrintWords Go.Proofs.YtlnhiogpjdhhbaaW.PrintLast Go.Proofs.YtlnhiogpjdhhbaaW.PrintMore
set_option linter.unusedVariables false
set_option linter.unusedSimpArgs false
/- Plain laws of trees: what the reference tells. -/
abbrev toldF (k : Nat) (x : S27) : Option (Bool × Bool) := ostinatoref04_Told.f k x.f0 x.f1.f0 x.f1.f1 x.f1.f2 x.f1.f3 x.f2 x.f3 x.f4
def toldFin (a b0 b1 b2 b3 lo : Int) (n : Nat) (v u : Nat) : Bool × Bool :=
  if a = 0 then (false, true) else if a = 1 then ((b0 == 0 && (b1 == 0 && (b2 == 0 && b3 == 0))), false) else if a = 2 then (decide (0 < v), u == n) else if a = 3 then (v == n, decide (0 < u)) else (decide (0 < v) && decide (0 < lo), lo == 0 || decide (0 < u))
theorem countP_pos_any {α : Type} (p : α → Bool) (l : List α) : decide (0 < l.countP p) = l.any p := by
  rw [Bool.eq_iff_iff]; simp [List.countP_pos_iff, List.any_eq_true]
theorem countP_len_all {α : Type} (p : α → Bool) (l : List α) : (l.countP p == l.length) = !(l.any fun y => !p y) := by
  rw [Bool.eq_iff_iff]; simp [List.countP_eq_length]
theorem toldFin_eq (a b0 b1 b2 b3 lo hi : Int) (ps : List S27) (h : formedT ⟨a, ⟨b0, b1, b2, b3⟩, ps, lo, hi⟩ = true) :
    toldFin a b0 b1 b2 b3 lo ps.length (ps.countP voidT) (ps.countP nullT) = (voidT ⟨a, ⟨b0, b1, b2, b3⟩, ps, lo, hi⟩, nullT ⟨a, ⟨b0, b1, b2, b3⟩, ps, lo, hi⟩) := by
  obtain ⟨hk, h2, h4, h0, _, _, _⟩ := formedT_kind h
  rw [voidT_eq, nullT_eq]
  simp only at hk h2 h4 h0 ⊢
  unfold toldFin
  rw [countP_pos_any, countP_len_all, countP_pos_any, countP_len_all]
  rcases hk with rfl | rfl | rfl | rfl | rfl
  · simp
  · simp [emptyB]
  · simp
  · simp
  · obtain ⟨p, rfl⟩ := list_one (h4 rfl).1
    simp [voidH, nullH, Bool.and_comm]
theorem told_ev (n : Nat) : ∀ (x : S27), cntT x < n → cntT x ≤ 1000000 → formedT x = true → Ev (fun k => toldF k x) (voidT x, nullT x) := by
  induction n with
  | zero => intro x h; omega
  | succ n ih =>
    intro x hn hc hx
    have hparts := (formedT_kind hx).2.2.2.2.2.2
    obtain ⟨a, ⟨b0, b1, b2, b3⟩, ps, lo, hi⟩ := x
    rw [cntT] at hn hc
    simp only at hparts
    have hll := len_le_cntL ps
    have loop : ∀ (d i v u : Nat), ps.length - i = d → i ≤ ps.length → v ≤ i → u ≤ i → Ev (fun k => ostinatoref04_Told.l0 k (v : Int) (u : Int) (i : Int) a b0 b1 b2 b3 ps lo hi) (toldFin a b0 b1 b2 b3 lo ps.length (v + (ps.drop i).countP voidT) (u + (ps.drop i).countP nullT)) := by
      intro d
      induction d with
      | zero =>
        intro i v u hd hile hv hu
        refine Ev.step (f := fun _ => some (toldFin a b0 b1 b2 b3 lo ps.length v u)) (fun k => ?_) (by rw [show i = ps.length by omega, List.drop_length]; simpa using Ev.now _)
        simp only [ostinatoref04_Told.l0]
        rw [if_neg (by omega)]
        have c1 : ((u : Int) == (ps.length : Int)) = (u == ps.length) := by rw [Bool.eq_iff_iff]; simp; omega
        have c2 : ((v : Int) == (ps.length : Int)) = (v == ps.length) := by rw [Bool.eq_iff_iff]; simp; omega
        have c3 : decide ((v : Int) > 0) = decide (0 < v) := by rw [Bool.eq_iff_iff]; simp
        have c4 : decide ((u : Int) > 0) = decide (0 < u) := by rw [Bool.eq_iff_iff]; simp
        have c5 : ((v : Int) > 0) ↔ 0 < v := by omega
        unfold toldFin
        by_cases k0 : a = 0
        · simp [k0]
        · by_cases k1 : a = 1
          · simp [k1]
          · by_cases k2 : a = 2
            · simp [k2, c1, c3]
            · by_cases k3 : a = 3
              · simp [k3, c2, c4]
              · by_cases k5 : 0 < v
                · by_cases k6 : lo = 0
                  · simp [k0, k1, k2, k3, k5, k6]
                  · have k6' : (lo == 0) = false := by simpa using k6
                    simp [k0, k1, k2, k3, k5, k6, k6', c4]
                · by_cases k6 : lo = 0
                  · simp [k0, k1, k2, k3, k5, k6]
                  · have k6' : (lo == 0) = false := by simpa using k6
                    simp [k0, k1, k2, k3, k5, k6, k6', c4]
      | succ d ihd =>
        intro i v u hd hile hv hu
        have hlt : i < ps.length := by omega
        have hmem := List.getElem_mem hlt
        have hcm := cntL_mem hmem
        have hp := ih ps[i] (by omega) (by omega) (hparts _ hmem)
        have hr := ihd (i + 1) (v + (if voidT ps[i] = true then 1 else 0)) (u + (if nullT ps[i] = true then 1 else 0)) (by omega) (by omega) (by split <;> omega) (by split <;> omega)
        refine Ev.step (f := fun k => (toldF k ps[i]).bind fun t => if t.1 = true then (if t.2 = true then ostinatoref04_Told.l0 k ((v + 1 : Nat) : Int) ((u + 1 : Nat) : Int) ((i + 1 : Nat) : Int) a b0 b1 b2 b3 ps lo hi else ostinatoref04_Told.l0 k ((v + 1 : Nat) : Int) (u : Int) ((i + 1 : Nat) : Int) a b0 b1 b2 b3 ps lo hi) else (if t.2 = true then ostinatoref04_Told.l0 k (v : Int) ((u + 1 : Nat) : Int) ((i + 1 : Nat) : Int) a b0 b1 b2 b3 ps lo hi else ostinatoref04_Told.l0 k (v : Int) (u : Int) ((i + 1 : Nat) : Int) a b0 b1 b2 b3 ps lo hi)) (fun k => ?_) (Ev.bind hp ?_)
        · simp only [ostinatoref04_Told.l0]
          rw [if_pos (by omega), if_pos (by omega), rdN ps i hlt, wrapS i (by omega), wrapS v (by omega), wrapS u (by omega)]
        · rw [dropN ps i hlt, List.countP_cons, List.countP_cons]
          cases hv1 : voidT ps[i] <;> cases hu1 : nullT ps[i] <;> rw [hv1, hu1] at hr <;> simp only [Bool.false_eq_true, if_false, if_true, Nat.add_zero] at hr ⊢
          · exact hr
          · rw [show u + ((ps.drop (i + 1)).countP nullT + 1) = u + 1 + (ps.drop (i + 1)).countP nullT by omega]; exact hr
          · rw [show v + ((ps.drop (i + 1)).countP voidT + 1) = v + 1 + (ps.drop (i + 1)).countP voidT by omega]; exact hr
          · rw [show u + ((ps.drop (i + 1)).countP nullT + 1) = u + 1 + (ps.drop (i + 1)).countP nullT by omega, show v + ((ps.drop (i + 1)).countP voidT + 1) = v + 1 + (ps.drop (i + 1)).countP voidT by omega]; exact hr
    rw [← toldFin_eq a b0 b1 b2 b3 lo hi ps hx]
    refine Ev.step (f := fun k => ostinatoref04_Told.l0 k ((0 : Nat) : Int) ((0 : Nat) : Int) ((0 : Nat) : Int) a b0 b1 b2 b3 ps lo hi) (fun k => by simp only [toldF, ostinatoref04_Told.f]; rfl) ?_
    have := loop ps.length 0 0 0 (by omega) (by omega) (by omega) (by omega)
    simpa using this
/- Plain laws of trees: the chapter's simple tree is the core's. -/
def spreadT (k : Int) : List S27 → List S27
  | [] => []
  | p :: ps => (if p.f0 = k then p.f2 else [p]) ++ spreadT k ps
theorem putL_append (k : Int) (ps qs : List S27) : ∀ l : List S27, putL k l (ps ++ qs) = putL k (putL k l ps) qs := by
  induction ps with
  | nil => intro l; rw [List.nil_append, putL.eq_1]
  | cons p ps ih => intro l; rw [List.cons_append, putL, ih, putL.eq_2 k l p ps]
theorem putL_spread (k : Int) (ps : List S27) : ∀ l : List S27, putL k l (spreadT k ps) = putL k l ps := by
  induction ps with
  | nil => intro l; rfl
  | cons p ps ih =>
    intro l
    rw [spreadT, putL_append, ih, putL.eq_2 k l p ps]
    congr 1
    split
    · next e => rw [putP_eq, if_pos e]
    · rw [putL, putL]
theorem spreadT_cnt (k : Int) (ps : List S27) : cntL (spreadT k ps) ≤ cntL ps := by
  induction ps with
  | nil => simp [spreadT]
  | cons p ps ih =>
    have hc := cntT_eq p
    rw [spreadT, cntL_append, cntL]
    split
    · omega
    · simp only [cntL]; omega
theorem spreadT_mem {k : Int} {ps : List S27} {y : S27} (h : y ∈ spreadT k ps) : (y ∈ ps ∧ y.f0 ≠ k) ∨ ∃ p ∈ ps, p.f0 = k ∧ y ∈ p.f2 := by
  induction ps with
  | nil => cases h
  | cons p ps ih =>
    rw [spreadT] at h
    rcases List.mem_append.1 h with h | h
    · split at h
      · next e => exact .inr ⟨p, List.mem_cons_self, e, h⟩
      · next e => rw [List.mem_singleton.1 h]; exact .inl ⟨List.mem_cons_self, e⟩
    · rcases ih h with ⟨a, b⟩ | ⟨q, a, b⟩
      · exact .inl ⟨List.mem_cons_of_mem _ a, b⟩
      · exact .inr ⟨q, List.mem_cons_of_mem _ a, b⟩
theorem spread_ev (a : Int) (ps : List S27) (hc : cntL ps ≤ 1000000) : Ev (fun k => ostinatoref04_spread.f k a ps) (spreadT a ps) := by
  have hll := len_le_cntL ps
  have loop : ∀ (d i : Nat) (out : List S27), ps.length - i = d → i ≤ ps.length → out.length + cntL (ps.drop i) ≤ 2000000 → Ev (fun k => ostinatoref04_spread.l0 k a ps out (i : Int)) (out ++ spreadT a (ps.drop i)) := by
    intro d
    induction d with
    | zero =>
      intro i out hd hile ho
      refine Ev.step (f := fun _ => some out) (fun k => ?_) (by rw [show i = ps.length by omega, List.drop_length]; simpa [spreadT] using Ev.now _)
      simp only [ostinatoref04_spread.l0]
      rw [if_neg (by omega)]
    | succ d ihd =>
      intro i out hd hile ho
      have hlt : i < ps.length := by omega
      have hc1 := cntT_eq ps[i]
      have hl2 := len_le_cntL ps[i].f2
      rw [dropN ps i hlt, cntL] at ho
      rw [dropN ps i hlt, spreadT]
      by_cases e : ps[i].f0 = a
      · have hr := ihd (i + 1) (out ++ ps[i].f2) (by omega) (by omega) (by rw [List.length_append]; omega)
        rw [if_pos e, ← List.append_assoc]
        refine Ev.step (fun k => ?_) hr
        simp only [ostinatoref04_spread.l0]
        rw [if_pos (by omega), if_pos (by omega), rdN ps i hlt, if_pos e, if_pos (by omega), wrapS i (by omega)]
      · have hr := ihd (i + 1) (out ++ [ps[i]]) (by omega) (by omega) (by rw [List.length_append, List.length_singleton]; omega)
        rw [if_neg e, ← List.append_assoc]
        refine Ev.step (fun k => ?_) hr
        simp only [ostinatoref04_spread.l0]
        rw [if_pos (by omega), if_pos (by omega), rdN ps i hlt, if_neg e, if_pos (by omega), wrapS i (by omega), etaN]
  refine Ev.congr (f := fun k => ostinatoref04_spread.l0 k a ps [] ((0 : Nat) : Int)) (fun k => rfl) ?_
  have := loop ps.length 0 [] (by omega) (by omega) (by rw [List.drop_zero]; simp; omega)
  simpa using this
theorem oneT_tup (k : Int) (l : List S27) (n : Nat) (a : List S27) (b0 b1 b2 b3 lo hi : Int) (ps : List S27) :
    ostinatoref04_Simple.l1 (n + 1) a l (a.length : Int) k b0 b1 b2 b3 ps lo hi = some (tup (oneT k l)) := by
  simp only [ostinatoref04_Simple.l1]
  rw [if_neg (by omega)]
  match l with
  | [] => rfl
  | [y] =>
    rw [if_neg (by simp), if_pos (by simp), if_pos (by simp)]
    rfl
  | y :: z :: l => rw [if_neg (by simp; omega), if_neg (by simp; omega)]; rfl
section
variable (kd b0 b1 b2 b3 lo hi : Int) (ps qs : List S27)
theorem l2_ev (i : Nat) (hi' : i < qs.length) (hq : qs.length ≤ 1000000) (left : List S27) (hl : left.length ≤ 1000000) (hs : ∀ q ∈ left, cntT q ≤ 1000000) (r : Int × Int × Int × Int × Int × List S27 × Int × Int) (no : Bool)
    (hr : Ev (fun k => ostinatoref04_Simple.l1 k qs (if (no || (kd == 3 && left.any fun q => sameT qs[i] q)) = true then left else left ++ [qs[i]]) ((i + 1 : Nat) : Int) kd b0 b1 b2 b3 ps lo hi) r) :
    Ev (fun k => ostinatoref04_Simple.l2 k qs left (i : Int) no 0 kd b0 b1 b2 b3 ps lo hi) r := by
  have fin : ∀ (x : Int) (nn : Bool), (¬ (x < (left.length : Int)) ∨ kd ≠ 3) → Ev (fun k => ostinatoref04_Simple.l1 k qs (if nn = true then left else left ++ [qs[i]]) ((i + 1 : Nat) : Int) kd b0 b1 b2 b3 ps lo hi) r → Ev (fun k => ostinatoref04_Simple.l2 k qs left (i : Int) nn x kd b0 b1 b2 b3 ps lo hi) r := by
    intro x nn hx hr
    refine Ev.step (fun k => ?_) hr
    simp only [ostinatoref04_Simple.l2]
    have body : (if nn = true then ostinatoref04_Simple.l1 k qs left (wrap64 ((i : Int) + 1)) kd b0 b1 b2 b3 ps lo hi else if 0 ≤ (i : Int) then if (i : Int) < (qs.length : Int) then if left.length < 1759218604441 then ostinatoref04_Simple.l1 k qs (left ++ [⟨(rd_T27 qs (i : Int)).f0, ⟨(rd_T27 qs (i : Int)).f1.f0, (rd_T27 qs (i : Int)).f1.f1, (rd_T27 qs (i : Int)).f1.f2, (rd_T27 qs (i : Int)).f1.f3⟩, (rd_T27 qs (i : Int)).f2, (rd_T27 qs (i : Int)).f3, (rd_T27 qs (i : Int)).f4⟩]) (wrap64 ((i : Int) + 1)) kd b0 b1 b2 b3 ps lo hi else none else none else none) = ostinatoref04_Simple.l1 k qs (if nn = true then left else left ++ [qs[i]]) ((i + 1 : Nat) : Int) kd b0 b1 b2 b3 ps lo hi := by
      rw [wrapS i (by omega), rdN qs i hi', if_pos (by omega : 0 ≤ (i : Int)), if_pos (by omega : (i : Int) < (qs.length : Int)), if_pos (by omega : left.length < 1759218604441), etaN]
      cases nn <;> rfl
    by_cases h1 : x < (left.length : Int)
    · rw [if_pos h1, if_neg (by rcases hx with h | h; exact absurd h1 h; exact h)]; exact body
    · rw [if_neg h1]; exact body
  by_cases k3 : kd = 3
  · subst k3
    have loop : ∀ (d j : Nat) (nn : Bool), left.length - j = d → j ≤ left.length → Ev (fun k => ostinatoref04_Simple.l1 k qs (if (nn || ((left.drop j).any fun q => sameT qs[i] q)) = true then left else left ++ [qs[i]]) ((i + 1 : Nat) : Int) 3 b0 b1 b2 b3 ps lo hi) r → Ev (fun k => ostinatoref04_Simple.l2 k qs left (i : Int) nn (j : Int) 3 b0 b1 b2 b3 ps lo hi) r := by
      intro d
      induction d with
      | zero =>
        intro j nn hd hj hr
        refine fin _ nn (.inl (by omega)) ?_
        rw [show j = left.length by omega, List.drop_length] at hr
        simpa using hr
      | succ d ihd =>
        intro j nn hd hj hr
        have hlt : j < left.length := by omega
        have hmem := List.getElem_mem hlt
        rw [dropN left j hlt, List.any_cons] at hr
        cases nn with
        | true =>
          refine Ev.step (fun k => ?_) (ihd (j + 1) true (by omega) (by omega) (by simpa using hr))
          simp only [ostinatoref04_Simple.l2]
          rw [if_pos (by omega), if_pos trivial, if_pos trivial, wrapS j (by omega)]
        | false =>
          have e1 : sameT left[j] qs[i] = sameT qs[i] left[j] := by
            rw [Bool.eq_iff_iff, sameT_iff, sameT_iff]; exact eq_comm
          have hsm := refSame_ev _ left[j] qs[i] (Nat.lt_succ_self _) (hs _ hmem)
          refine Ev.step (f := fun k => (sameF k left[j] qs[i]).bind fun t => ostinatoref04_Simple.l2 k qs left (i : Int) t ((j + 1 : Nat) : Int) 3 b0 b1 b2 b3 ps lo hi) (fun k => ?_) (Ev.bind hsm (ihd (j + 1) _ (by omega) (by omega) (by rw [e1]; simpa using hr)))
          simp only [ostinatoref04_Simple.l2]
          rw [if_pos (by omega), if_pos trivial, if_neg (by decide), if_pos (by omega), if_pos (by omega), if_pos (by omega), wrapS j (by omega), rdN left j hlt, rdN qs i hi']
    have := loop left.length 0 no (by omega) (by omega) (by simpa using hr)
    simpa using this
  · refine fin 0 no (.inr k3) ?_
    have : (kd == 3) = false := by simp [k3]
    simpa [this] using hr
theorem l1_ev (hk : kd = 2 ∨ kd = 3) (hq : cntL qs ≤ 1000000) (hf : ∀ q ∈ qs, formedT q = true ∧ q.f0 ≠ kd) :
    ∀ (d i : Nat) (left : List S27), qs.length - i = d → i ≤ qs.length → cntL left + cntL (qs.drop i) ≤ 1000000 → Ev (fun k => ostinatoref04_Simple.l1 k qs left (i : Int) kd b0 b1 b2 b3 ps lo hi) (tup (oneT kd (putL kd left (qs.drop i)))) := by
  have hll := len_le_cntL qs
  intro d
  induction d with
  | zero =>
    intro i left hd hile hc
    have hl := len_le_cntL left
    rw [show i = qs.length by omega, List.drop_length] at hc ⊢
    rw [putL]
    simp only [cntL] at hc
    exact Ev.step (f := fun _ => some (tup (oneT kd left))) (fun k => oneT_tup kd left k qs b0 b1 b2 b3 lo hi ps) (Ev.now _)
  | succ d ihd =>
    intro i left hd hile hc
    have hlt : i < qs.length := by omega
    have hmem := List.getElem_mem hlt
    obtain ⟨hfm, hne⟩ := hf _ hmem
    have hl := len_le_cntL left
    have hcm := cntL_mem hmem
    rw [dropN qs i hlt, cntL] at hc
    have htold := told_ev _ qs[i] (Nat.lt_succ_self _) (by omega) hfm
    have hput : putP kd left qs[i] = if ((if kd = 2 then (if qs[i].f0 = 0 then true else false) else voidT qs[i]) || (kd == 3 && left.any fun q => sameT qs[i] q)) = true then left else left ++ [qs[i]] := by
      rw [putP_eq, if_neg hne]
      rcases hk with rfl | rfl
      · by_cases e : qs[i].f0 = 0 <;> simp [e]
      · by_cases e : voidT qs[i] = true <;> simp [e]
    have hcp : cntL (putP kd left qs[i]) ≤ cntL left + cntT qs[i] := putP_cnt kd left qs[i]
    have hr := ihd (i + 1) (putP kd left qs[i]) (by omega) (by omega) (by omega)
    rw [dropN qs i hlt, putL]
    rw [hput] at hr ⊢
    have h2 := l2_ev kd b0 b1 b2 b3 lo hi ps qs i hlt (by omega) left (by omega) (fun q hq => by have := cntL_mem hq; omega) _ _ hr
    refine Ev.step (f := fun k => (toldF k qs[i]).bind fun t => ostinatoref04_Simple.j4 k qs left (i : Int) (if kd = 2 then (if qs[i].f0 = 0 then true else false) else t.1) kd b0 b1 b2 b3 ps lo hi) (fun k => ?_) (Ev.bind htold (Ev.step (fun k => by simp only [ostinatoref04_Simple.j4]) h2))
    simp only [ostinatoref04_Simple.l1]
    rw [if_pos (by omega), if_pos (by omega), rdN qs i hlt]
    rcases hk with rfl | rfl
    · by_cases e : qs[i].f0 = 0
      · simp only [if_pos e, if_true]
      · simp only [if_neg e, if_true]; rfl
    · rfl
end
abbrev refSimpleF (k : Nat) (x : S27) := ostinatoref04_Simple.f k x.f0 x.f1.f0 x.f1.f1 x.f1.f2 x.f1.f3 x.f2 x.f3 x.f4
theorem simple_formed {x : S27} (h : formedT x = true) : simpleT x = vT ∨ LeanP (simpleT x) := by
  cases hv : voidT x with
  | true => exact .inl (simple_void hv)
  | false => exact .inr (simple_good _ x (Nat.lt_succ_self _) h hv).1
theorem formed_simple {x : S27} (h : formedT x = true) : formedT (simpleT x) = true := by
  rcases simple_formed h with e | e
  · rw [e]; exact formed_vT
  · exact (lean_formed e).1
theorem times_ref (y : S27) (b0 b1 b2 b3 lo hi : Int) (ps : List S27) : Ev (fun k => ostinatoref04_Simple.j1 k [y] (nullT y) (if hi = 0 then true else if y.f0 = 0 then true else voidT y) 4 b0 b1 b2 b3 ps lo hi) (tup (timesT y lo hi)) := by
  have hrd : rd_T27 [y] 0 = y := rfl
  by_cases hc : hi = 0 ∨ y.f0 = 0 ∨ voidT y = true
  · have e1 : (if hi = 0 then true else if y.f0 = 0 then true else voidT y) = true := by
      rcases hc with h | h | h
      · rw [if_pos h]
      · rw [if_pos h]; split <;> rfl
      · rw [h]; split
        · rfl
        · split <;> rfl
    rw [e1, timesT, if_pos hc]
    exact Ev.step (f := fun _ => some (tup zT)) (fun k => by simp only [ostinatoref04_Simple.j1]; rfl) (Ev.now _)
  · have h1 : ¬ hi = 0 := fun h => hc (.inl h)
    have h2 : ¬ y.f0 = 0 := fun h => hc (.inr (.inl h))
    have h3 : voidT y = false := by cases h : voidT y with | false => rfl | true => exact absurd (.inr (.inr h)) hc
    rw [if_neg h1, if_neg h2, h3, timesT, if_neg hc]
    by_cases hl : lo = 1 ∧ hi = 1
    · rw [if_pos hl]
      obtain ⟨rfl, rfl⟩ := hl
      refine Ev.step (f := fun k => ostinatoref04_Simple.j2 k [y] (nullT y) true 4 b0 b1 b2 b3 ps 1 1) (fun k => by simp only [ostinatoref04_Simple.j1]; rfl) ?_
      refine Ev.step (f := fun _ => some (tup y)) (fun k => ?_) (Ev.now _)
      simp only [ostinatoref04_Simple.j2, hrd]
      rfl
    · rw [if_neg hl]
      have e2 : ∀ k, ostinatoref04_Simple.j1 (k + 1) [y] (nullT y) false 4 b0 b1 b2 b3 ps lo hi = ostinatoref04_Simple.j2 k [y] (nullT y) false 4 b0 b1 b2 b3 ps lo hi := by
        intro k
        simp only [ostinatoref04_Simple.j1]
        rw [if_neg (by decide)]
        by_cases l1 : lo = 1
        · have : (hi == 1) = false := by simp; exact fun h => hl ⟨l1, h⟩
          rw [if_pos l1, this]
        · rw [if_neg l1]
      refine Ev.step e2 (Ev.step (f := fun _ => some (tup ⟨4, ⟨0, 0, 0, 0⟩, [y], if nullT y = true then 0 else lo, hi⟩)) (fun k => ?_) (Ev.now _))
      simp only [ostinatoref04_Simple.j2]
      rw [if_neg (by decide)]
      split <;> rfl
theorem refSimple_ev (n : Nat) : ∀ (x : S27), cntT x < n → cntT x ≤ 1000000 → formedT x = true → Ev (fun k => refSimpleF k x) (tup (simpleT x)) := by
  induction n with
  | zero => intro x h; omega
  | succ n ih =>
    intro x hn hc hx
    have htold := told_ev _ x (Nat.lt_succ_self _) hc hx
    obtain ⟨hk, h2, h4, h0, h3, h5, hparts⟩ := formedT_kind hx
    have hok := ok_formed hx
    obtain ⟨a, ⟨b0, b1, b2, b3⟩, ps, lo, hi⟩ := x
    simp only at hk h2 h4 hparts
    have hcc : cntT ⟨a, ⟨b0, b1, b2, b3⟩, ps, lo, hi⟩ = 1 + cntL ps := by rw [cntT]
    have hll := len_le_cntL ps
    refine Ev.step (f := fun k => (toldF k ⟨a, ⟨b0, b1, b2, b3⟩, ps, lo, hi⟩).bind fun bt => if bt.1 = true then some (1, 0, 0, 0, 0, [], 0, 0) else if a < 2 then some (a, b0, b1, b2, b3, ps, lo, hi) else ostinatoref04_Simple.l0 k [] 0 a b0 b1 b2 b3 ps lo hi) (fun k => by simp only [refSimpleF, ostinatoref04_Simple.f]) (Ev.bind htold ?_)
    cases hv : voidT ⟨a, ⟨b0, b1, b2, b3⟩, ps, lo, hi⟩ with
    | true => rw [simple_void hv]; exact Ev.now _
    | false =>
      have hsx : simpleT ⟨a, ⟨b0, b1, b2, b3⟩, ps, lo, hi⟩ = if a = 2 ∨ a = 3 then oneT a (putL a [] (ps.map simpleT)) else if a = 4 then timesT (simpleH ps) lo hi else ⟨a, ⟨b0, b1, b2, b3⟩, ps, lo, hi⟩ := by
        rw [simpleT_eq, if_neg (by rw [hv]; decide)]
      rw [hsx]
      simp only [Bool.false_eq_true, if_false]
      by_cases ha : a < 2
      · simp only [if_pos ha]
        rw [if_neg (by omega), if_neg (by omega)]
        exact Ev.now _
      · simp only [if_neg ha]
        have hms : ∀ l : List S27, (∀ y ∈ l, y ∈ ps) → cntL (l.map simpleT) ≤ cntL l := by
          intro l
          induction l with
          | nil => intro _; simp [cntL]
          | cons p l ihl =>
            intro h
            have h1 := ihl (fun y hy => h y (List.mem_cons_of_mem _ hy))
            have h2 := (simpleT_ok _ p (Nat.lt_succ_self _) (ok_formed (hparts p (h p List.mem_cons_self)))).2
            rw [List.map_cons, cntL, cntL]; omega
        have hmc := hms ps (fun y hy => hy)
        have fin : Ev (fun k => ostinatoref04_Simple.l0 k (ps.map simpleT) (ps.length : Int) a b0 b1 b2 b3 ps lo hi) (tup (if a = 2 ∨ a = 3 then oneT a (putL a [] (ps.map simpleT)) else if a = 4 then timesT (simpleH ps) lo hi else ⟨a, ⟨b0, b1, b2, b3⟩, ps, lo, hi⟩)) := by
          by_cases k4 : a = 4
          · subst k4
            rw [if_neg (by omega), if_pos rfl]
            obtain ⟨p, rfl⟩ := list_one (h4 rfl).1
            have hpf := hparts p (by simp)
            have hpc := (simpleT_ok _ p (Nat.lt_succ_self _) (ok_formed hpf)).2
            have hcp : cntT p ≤ cntL [p] := by simp [cntL]
            have ht := told_ev _ (simpleT p) (Nat.lt_succ_self _) (by omega) (formed_simple hpf)
            have hrd : rd_T27 [simpleT p] 0 = simpleT p := rfl
            refine Ev.step (f := fun k => (toldF k (simpleT p)).bind fun bt => ostinatoref04_Simple.j1 k [simpleT p] bt.2 (if hi = 0 then true else if (simpleT p).f0 = 0 then true else bt.1) 4 b0 b1 b2 b3 [p] lo hi) (fun k => ?_) (Ev.bind ht (times_ref (simpleT p) b0 b1 b2 b3 lo hi [p]))
            simp only [ostinatoref04_Simple.l0, List.map_cons, List.map_nil, hrd]
            rw [if_neg (by omega), if_pos trivial, if_pos (by simp)]
            congr 1
            funext bt
            split
            · rfl
            · split <;> rfl
          · have k23 : a = 2 ∨ a = 3 := by omega
            rw [if_pos k23, ← putL_spread]
            have hsp := spread_ev a (ps.map simpleT) (by omega)
            have hsc := spreadT_cnt a (ps.map simpleT)
            have hl1 := l1_ev a b0 b1 b2 b3 lo hi ps (spreadT a (ps.map simpleT)) k23 (by omega) (fun q hq => by
              rcases spreadT_mem hq with ⟨hm, hne⟩ | ⟨p, hm, he, hqp⟩
              · obtain ⟨z, hz, rfl⟩ := List.mem_map.1 hm
                exact ⟨formed_simple (hparts z hz), hne⟩
              · obtain ⟨z, hz, rfl⟩ := List.mem_map.1 hm
                rcases simple_formed (hparts z hz) with e | e
                · rw [e] at he; have he' : (1 : Int) = a := he; omega
                · rcases k23 with rfl | rfl
                  · have h := ((lean_kind e).2.1 he).2.2 q hqp; exact ⟨(lean_formed h.1).1, h.2.2⟩
                  · have h := ((lean_kind e).2.2 he).2.2.1 q hqp; exact ⟨(lean_formed h.1).1, h.2⟩) _ 0 [] rfl (by omega) (by simp [cntL]; omega)
            refine Ev.step (f := fun k => (ostinatoref04_spread.f k a (ps.map simpleT)).bind fun t => ostinatoref04_Simple.l1 k t [] ((0 : Nat) : Int) a b0 b1 b2 b3 ps lo hi) (fun k => ?_) (Ev.bind hsp (by simpa using hl1))
            simp only [ostinatoref04_Simple.l0]
            rw [if_neg (by omega), if_neg k4]
            rfl
        have loop : ∀ (d i : Nat), ps.length - i = d → i ≤ ps.length → Ev (fun k => ostinatoref04_Simple.l0 k ((ps.take i).map simpleT) (i : Int) a b0 b1 b2 b3 ps lo hi) (tup (if a = 2 ∨ a = 3 then oneT a (putL a [] (ps.map simpleT)) else if a = 4 then timesT (simpleH ps) lo hi else ⟨a, ⟨b0, b1, b2, b3⟩, ps, lo, hi⟩)) := by
          intro d
          induction d with
          | zero =>
            intro i hd hile
            rw [show i = ps.length by omega, List.take_length]
            exact fin
          | succ d ihd =>
            intro i hd hile
            have hlt : i < ps.length := by omega
            have hmem := List.getElem_mem hlt
            have hcm := cntL_mem hmem
            have hp1 := ih ps[i] (by omega) (by omega) (hparts _ hmem)
            have hr := ihd (i + 1) (by omega) (by omega)
            have htk : (ps.take (i + 1)).map simpleT = (ps.take i).map simpleT ++ [simpleT ps[i]] := by
              rw [List.take_add_one, List.getElem?_eq_getElem hlt, List.map_append]; rfl
            rw [htk] at hr
            refine Ev.step (f := fun k => (refSimpleF k ps[i]).bind fun bt => ostinatoref04_Simple.l0 k ((ps.take i).map simpleT ++ [⟨bt.1, ⟨bt.2.1, bt.2.2.1, bt.2.2.2.1, bt.2.2.2.2.1⟩, bt.2.2.2.2.2.1, bt.2.2.2.2.2.2.1, bt.2.2.2.2.2.2.2⟩]) ((i + 1 : Nat) : Int) a b0 b1 b2 b3 ps lo hi) (fun k => ?_) (Ev.bind hp1 (by simp only [tup, etaN]; exact hr))
            have hl : ((ps.take i).map simpleT).length < 1759218604441 := by rw [List.length_map, List.length_take]; omega
            simp only [ostinatoref04_Simple.l0]
            rw [if_pos (by omega), if_pos (by omega), rdN ps i hlt, wrapS i (by omega)]
            simp only [if_pos hl]
        have := loop ps.length 0 (by omega) (by omega)
        simpa using this
end Go.Proofs.Ytlnhiogpjdhhbaa.P
