/- The walk of the program's Join. -/
import Derived.Test.YtbdgfbkhplhpkaaDoorRunP
namespace Go.Proofs.YtbdgfbkhplhpkaaDoor
open Go.RowKit
set_option linter.unusedVariables false
set_option linter.unusedSimpArgs false

theorem ext_trans {a b c : World} (h : Below a.heap.size a b) (k : Below b.heap.size b c) : Below a.heap.size a c := h.trans (k.mono h.size)
theorem pos_tot : ∀ l : List Rn, (∀ r ∈ l, 1 ≤ r.2) → 0 ≤ tot l
  | [], _ => by simp [tot, sumT]
  | a :: l, h => by rw [tot_cons]; have := pos_tot l (fun r hr => h r (by simp [hr])); have := h a (by simp); omega
theorem mem_tot : ∀ (l : List Rn), (∀ r ∈ l, 1 ≤ r.2) → ∀ r ∈ l, r.2 ≤ tot l
  | [], _, r, hr => by cases hr
  | a :: l, h, r, hr => by
    rw [tot_cons]
    have h0 := pos_tot l (fun r hr => h r (by simp [hr]))
    have ha := h a (by simp)
    rcases List.mem_cons.1 hr with rfl | hr
    · omega
    · have := mem_tot l (fun r hr => h r (by simp [hr])) r hr; omega
theorem put_room {rs w : List Rn} (h : AllG rs) (hw : AllG w) (ht : tot w ≤ 288230376151711744) (hs : tot rs ≤ 4611686018427387904) {r : Rn} (hr : r ∈ w) : ∀ x ∈ rs, I64 (x.2 + r.2) := by
  intro x hx
  have h1 := allG_mem h x hx
  have h2 := mem_tot rs (allG_mem h) x hx
  have h3 := allG_mem hw r hr
  have h4 := mem_tot w (allG_mem hw) r hr
  unfold I64
  omega
theorem tot_take {w : List Rn} (h : ∀ r ∈ w, 1 ≤ r.2) (q : Nat) : tot (w.take q) ≤ tot w := by
  have key : ∀ (xs ys : List Rn), (∀ r ∈ ys, 1 ≤ r.2) → tot xs ≤ tot (xs ++ ys) := by
    intro xs
    induction xs with
    | nil => intro ys h; have := pos_tot ys h; simpa [tot, sumT] using this
    | cons a xs ih => intro ys h; rw [List.cons_append, tot_cons, tot_cons]; have := ih ys h; omega
  have := key (w.take q) (w.drop q) (fun r hr => h r (List.mem_of_mem_drop hr))
  rwa [List.take_append_drop] at this
theorem fine_take {ws : List (List Rn)} (h : Fine ws) (k : Nat) : Fine (ws.take k) := fun w hw => h w (List.mem_of_mem_take hw)

theorem good_words {ws : List (List Rn)} {k : Nat} (h : ∀ j (hj : j < ws.length), j < k → RunsF ws[j]) (hk : k < ws.length) (hf : RunsF ws[k]) : ∀ j (hj : j < ws.length), j < k + 1 → RunsF ws[j] := fun j hj hjk => by
  by_cases e : j = k
  · subst e; exact hf
  · exact h j hj (by omega)
set_option maxHeartbeats 2000000 in
theorem join_bad (ws : List (List Rn)) (A : Option Addr) (c : Nat) (w : World) (h : Ws w A c ws) (hT : ∀ x ∈ ws, ∀ i, I64 (rT x i)) (hn : ws.length ≤ 10) (hbad : ∃ x ∈ ws, ¬ RunsF x) :
    Calls Tryd.prog 8 #[.slice A ws.length c] w fun e w' => e = .returned (.tuple #[.slice none 0 0, .int .i64 1]) ∧ Below w.heap.size w w' := by
  have HB := Lib.hid hbad
  clear hbad
  go_enter Tryd.func8, Tryd.ntmps8
  go_wp2
  go_loopw [13] (fun i wr => ∃ k : Nat, k ≤ ws.length ∧ i = .int .i64 k ∧ Hid (∀ j (hj : j < ws.length), j < k → RunsF ws[j]) ∧ Below w.heap.size w wr) (fun i _ => ws.length - (intOf i).toNat)
  case atStart => exact ⟨0, by omega, rfl, fun j _ h => by omega, Below.refl _ _⟩
  case round =>
    obtain ⟨k, hk, rfl, hg, hb⟩ := hrel
    by_cases hlt : k < ws.length
    · have hlz : (k : Int) < (ws.length : Int) := by omega
      obtain ⟨ad, B, d, rfl, hc, hr⟩ := (h.below hb).at_ hlt
      have hf := fun W (hr : Rs W B d ws[k]) => formedR_any ws[k] (hT _ (List.getElem_mem hlt)) B d W hr
      cases hok : runsOk ws[k] with
      | true =>
        rw [hok] at hf
        have hrk := runsOk_of hok
        have HO := Lib.hid (good_words hg.out hlt hrk)
        clear hok hrk
        generalize ws[k] = x at hf hc hr
        go_wp2_with fail
        refine (hf _ hr).mono ?_
        rintro e w1 ⟨rfl, hb1⟩
        go_wp2
        go_roundw
        case rel =>
          exact ⟨k + 1, by omega, by go_num, HO, ext_trans hb hb1⟩
        case measure => simp [intOf]; omega
      | false =>
        rw [hok] at hf
        clear hok
        generalize ws[k] = x at hf hc hr
        go_wp2_with fail
        refine (hf _ hr).mono ?_
        rintro e w1 ⟨rfl, hb1⟩
        go_wp2
        go_ret2
        exact ⟨rfl, ext_trans hb hb1⟩
    · exfalso
      obtain ⟨x, hx, hno⟩ := HB.out
      obtain ⟨j, hj, rfl⟩ := List.getElem_of_mem hx
      exact hno (hg.out j hj (by omega))
theorem take_snoc {α : Type} (l : List α) {k : Nat} (h : k < l.length) : l.take (k + 1) = l.take k ++ [l[k]] := by simp
theorem join_len {ws : List (List Rn)} (hf : Fine ws) (hn : ws.length ≤ 10) (k : Nat) : (joinW [] (ws.take k)).length ≤ (joinW [] ws).length := by
  have e : joinW [] ws = joinW (joinW [] (ws.take k)) (ws.drop k) := by
    unfold joinW
    rw [← List.foldl_append, List.take_append_drop]
  have hnil : AllG [] := fun i hi => by simp at hi
  have ht0 : tot [] = 0 := rfl
  have h1 := joinW_facts (ws.take k) [] hnil (fine_take hf k) (by rw [ht0, List.length_take]; omega)
  have hb : tot (joinW [] (ws.take k)) + 288230376151711744 * (ws.drop k).length ≤ 4611686018427387904 := by
    have key : ∀ l : List (List Rn), Fine l → totW l ≤ 288230376151711744 * l.length := by
      intro l
      induction l with
      | nil => intro _; simp [totW]
      | cons a l ih => intro h; have := ih (fun x hx => h x (by simp [hx])); have := (h a (by simp)).2; simp [totW] at this ⊢; unfold totW at *; omega
    have := key (ws.take k) (fine_take hf k)
    rw [h1.2.1, ht0]
    rw [List.length_take] at this
    rw [List.length_drop]
    omega
  rw [e]
  exact (joinW_facts (ws.drop k) _ h1.1 (fun w hw => hf w (List.mem_of_mem_drop hw)) hb).2.2
/-- What holds of what is joined so far. -/
structure Jn (ws : List (List Rn)) (k : Nat) : Prop where
  all : AllG (joinW [] (ws.take k))
  sum : tot (joinW [] (ws.take k)) ≤ 288230376151711744 * k
  len : (joinW [] (ws.take k)).length ≤ (joinW [] ws).length
theorem jn_of {ws : List (List Rn)} (hf : Fine ws) (hn : ws.length ≤ 10) (k : Nat) (hk : k ≤ ws.length) : Jn ws k := by
  have hnil : AllG [] := fun i hi => by simp at hi
  have ht0 : tot [] = 0 := rfl
  have h1 := joinW_facts (ws.take k) [] hnil (fine_take hf k) (by rw [ht0, List.length_take]; omega)
  have key : ∀ l : List (List Rn), Fine l → totW l ≤ 288230376151711744 * l.length := by
    intro l
    induction l with
    | nil => intro _; simp [totW]
    | cons a l ih => intro h; have := ih (fun x hx => h x (by simp [hx])); have := (h a (by simp)).2; simp [totW] at this ⊢; unfold totW at *; omega
  have h2 := key (ws.take k) (fine_take hf k)
  rw [List.length_take, Nat.min_eq_left hk] at h2
  exact ⟨h1.1, by rw [h1.2.1, ht0]; omega, join_len hf hn k⟩
/-- What is put before the q-th run of the k-th word. -/
def partW (ws : List (List Rn)) (k q : Nat) : List Rn := putW (joinW [] (ws.take k)) ((ws.getD k []).take q)
theorem part_facts {ws : List (List Rn)} (hf : Fine ws) (hn : ws.length ≤ 10) {k : Nat} (hk : k < ws.length) (q : Nat) :
    AllG (partW ws k q) ∧ tot (partW ws k q) ≤ 4611686018427387904 ∧ (partW ws k q).length ≤ (joinW [] (ws.take k)).length + q := by
  have hj := jn_of hf hn k (by omega)
  have hg : ws.getD k [] = ws[k] := by simp [List.getD_eq_getElem?_getD, List.getElem?_eq_getElem hk]
  obtain ⟨h1, h2⟩ := hf ws[k] (List.getElem_mem hk)
  have ht := tot_take (allG_mem h1.1) q
  have hs := hj.sum
  unfold partW
  rw [hg]
  obtain ⟨a, b, c, d⟩ := putW_facts (ws[k].take q) _ hj.all (fun r hr => allG_mem h1.1 r (List.mem_of_mem_take hr)) (by omega)
  exact ⟨a, by omega, by have := List.length_take_le q ws[k]; omega⟩
theorem part_zero (ws : List (List Rn)) (k : Nat) : partW ws k 0 = joinW [] (ws.take k) := rfl
theorem part_step {ws : List (List Rn)} {k : Nat} (hk : k < ws.length) {q : Nat} (hq : q < ws[k].length) : putR (partW ws k q) ws[k][q] = partW ws k (q + 1) := by
  have hg : ws.getD k [] = ws[k] := by simp [List.getD_eq_getElem?_getD, List.getElem?_eq_getElem hk]
  unfold partW
  rw [hg, take_snoc _ hq, putW_snoc]
theorem part_all {ws : List (List Rn)} {k : Nat} (hk : k < ws.length) : partW ws k ws[k].length = joinW [] (ws.take (k + 1)) := by
  have hg : ws.getD k [] = ws[k] := by simp [List.getD_eq_getElem?_getD, List.getElem?_eq_getElem hk]
  unfold partW
  rw [hg, List.take_length, take_snoc _ hk, joinW_snoc]
theorem part_room {ws : List (List Rn)} (hf : Fine ws) (hn : ws.length ≤ 10) {k : Nat} (hk : k < ws.length) (q : Nat) {r : Rn} (hr : r ∈ ws[k]) : ∀ x ∈ partW ws k q, I64 (x.2 + r.2) := by
  obtain ⟨a, b, _⟩ := part_facts hf hn hk q
  obtain ⟨h1, h2⟩ := hf ws[k] (List.getElem_mem hk)
  exact put_room a h1.1 h2 b hr
theorem runsOk_len {rs : List Rn} (h : AllG rs) : runsOk rs = decide (rs.length ≤ 200) := by
  by_cases hl : rs.length ≤ 200
  · rw [runsOk_yes ⟨h, hl⟩, decide_eq_true hl]
  · rw [runsOk_no fun h' => hl h'.2, decide_eq_false hl]
theorem allG_i64 {rs : List Rn} (h : AllG rs) (ht : tot rs ≤ 4611686018427387904) : ∀ i, I64 (rT rs i) := by
  intro i
  unfold I64
  by_cases hi : i < rs.length
  · have hm : (rs[i]).2 ≤ tot rs := mem_tot rs (allG_mem h) _ (List.getElem_mem hi)
    have h1 := allG_mem h _ (List.getElem_mem hi)
    have e : rT rs i = (rs[i]).2 := by simp [rT, List.getD_eq_getElem?_getD, List.getElem?_eq_getElem hi]
    omega
  · have e : rT rs i = 0 := by simp [rT, List.getD_eq_getElem?_getD, List.getElem?_eq_none (show rs.length ≤ i by omega)]
    omega
end Go.Proofs.YtbdgfbkhplhpkaaDoor
