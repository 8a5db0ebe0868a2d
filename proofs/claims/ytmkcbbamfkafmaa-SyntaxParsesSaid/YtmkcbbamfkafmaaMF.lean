/- What is read is formed: plain. -/
import Derived.Test.YtmkcbbamfkafmaaMA
import Derived.Test.YtmkcbbamfkafmaaME
import Derived.Test.YtmkcbbamfkafmaaPx17
import Derived.Test.YtmkcbbamfkafmaaPx18
import Derived.Test.YtmkcbbamfkafmaaPx19
import Derived.Test.YtmkcbbamfkafmaaPx20
import Derived.Test.YtmkcbbamfkafmaaPx21
import Derived.Deep.LoopGhost
import Derived.Deep.DeepCutAuto
namespace Go.Proofs.Ytmkcbbamfkafmaa.P
open Go.RowKit Go.Proofs.Ytmkcbbamfkafmaa
set_option linter.unusedVariables false
set_option linter.unusedSimpArgs false
abbrev Fo (l : List T) : Prop := ∀ t ∈ l, formedT t = true
theorem fo_nil : Fo [] := fun t h => by cases h
theorem fo_one {t : T} (h : formedT t = true) : Fo [t] := fun x hx => by rw [List.mem_singleton.1 hx]; exact h
theorem fo_app {l m : List T} (h : Fo l) (k : Fo m) : Fo (l ++ m) := fun t ht => by
  rcases List.mem_append.1 ht with ht | ht
  · exact h t ht
  · exact k t ht
theorem fo_any {l : List T} (h : Fo l) : (l.any fun y => !formedT y) = false := by
  rw [List.any_eq_false]
  intro x hx
  simp [h x hx]
theorem fo_zN : formedT zN = true := by rw [formedT_eq]; rfl
theorem fo_setN (f : Nat → Bool) : formedT (setN f) = true := by rw [formedT_eq]; rfl
theorem fo_oneN (k : Int) (hk : k = 2 ∨ k = 3) (l : List T) (h : Fo l) : formedT (oneN k l) = true := by
  match l, h with
  | [], h => exact fo_zN
  | [x], h => exact h x (by simp)
  | x :: y :: r, h =>
    rw [formedT_eq, show (oneN k (x :: y :: r)).f2 = x :: y :: r from rfl, fo_any h]
    rcases hk with rfl | rfl <;> simp [oneN, shapedB, emptyB]
theorem fo_timN (t : T) (lo hi : Int) (h : formedT t = true) (h0 : 0 ≤ lo) (h1 : lo ≤ 2147483647) (h2 : hi = -1 ∨ lo ≤ hi ∧ hi ≤ 2147483647) : formedT (timN t lo hi) = true := by
  rw [formedT_eq, show (timN t lo hi).f2 = [t] from rfl, fo_any (fo_one h)]
  simp [timN, shapedB, emptyB, h0, h1]
  exact h2.imp id fun h => ⟨decide_eq_true h.1, decide_eq_true h.2⟩
def FoL (v : Lv) : Prop := Fo v.rows ∧ Fo v.row
structure FoM (m : Mc) : Prop where
  top : FoL m.top
  rest : ∀ v ∈ m.rest, FoL v
theorem FoL.nil : FoL ⟨[], []⟩ := ⟨fo_nil, fo_nil⟩
theorem FoL.close {v : Lv} (h : FoL v) : FoL v.close := ⟨fo_app h.1 (fo_one (fo_oneN 2 (.inl rfl) _ h.2)), fo_nil⟩
theorem FoL.put {v : Lv} (h : FoL v) {t : T} (ht : formedT t = true) : FoL (v.put t) := ⟨h.1, fo_app h.2 (fo_one ht)⟩
theorem FoL.done {v : Lv} (h : FoL v) : formedT v.done = true := fo_oneN 3 (.inr rfl) _ h.close.1
theorem fo_last {l : List T} (h : Fo l) : formedT (l.getLastD zN) = true := by
  cases l with
  | nil => exact fo_zN
  | cons x r =>
    rw [List.getLastD_cons]
    cases r with
    | nil => exact h x (by simp)
    | cons y q =>
      have hne : y :: q ≠ [] := by simp
      have e : (y :: q).getLastD x = (y :: q).getLast hne := by rw [List.getLastD_eq_getLast?, List.getLast?_eq_some_getLast hne]; rfl
      rw [e]
      exact h _ (List.mem_cons_of_mem _ (List.getLast_mem hne))
theorem FoL.rep {v : Lv} (h : FoL v) {lo hi : Int} (h0 : 0 ≤ lo) (h1 : lo ≤ 2147483647) (h2 : hi = -1 ∨ lo ≤ hi ∧ hi ≤ 2147483647) : FoL (v.rep lo hi) :=
  ⟨h.1, fo_app (fun t ht => h.2 t ((List.dropLast_sublist _).subset ht)) (fo_one (fo_timN _ lo hi (fo_last h.2) h0 h1 h2))⟩
variable {s : ByteArray}
theorem fail_zero {st : Sc} {p e : Int} (he : e ≠ 0) (h : (st.fail p e).e = 0) : False := by
  unfold Sc.fail at h
  split at h
  · exact he h
  · rename_i h0; exact h0 h
theorem must_zero {st : Sc} {c : Int} (h : (mustS s st c).e = 0) : st.e = 0 := by
  unfold mustS at h
  split at h
  · exact h
  · exact (fail_zero two_ne h).elim
theorem numGo_nn : ∀ (k : Nat) (n : Int) (a : Nat), 0 ≤ n → 0 ≤ (numGo s k n a).1
  | 0, n, a, h => h
  | k + 1, n, a, h => by
    rw [numGo]
    split
    · rename_i hd
      exact numGo_nn k _ _ (by have := hd.2.1; omega)
    · exact h
theorem number_fo {st : Sc} (h : (numberS s st).2.e = 0) : st.e = 0 ∧ 0 ≤ (numberS s st).1 ∧ (numberS s st).1 ≤ 2147483647 := by
  unfold numberS at h ⊢
  split at h
  · rename_i h0
    rw [if_pos h0]
    dsimp only at h ⊢
    split at h
    · cases h
    · split at h
      · cases h
      · rename_i h2
        exact ⟨h0, numGo_nn _ _ _ (by omega), by omega⟩
  · rename_i h0; exact (h0 h).elim
theorem times2_fo {st : Sc} {a : Int} (ha : 0 ≤ a ∧ a ≤ 2147483647) (h : (times2 s a st).2.e = 0) : st.e = 0 ∧ ((times2 s a st).1 = -1 ∨ 0 ≤ (times2 s a st).1 ∧ (times2 s a st).1 ≤ 2147483647) := by
  unfold times2 at h ⊢
  split
  · rename_i h1
    rw [if_pos h1] at h
    split
    · exact ⟨(isB_lt h1).1, .inl rfl⟩
    · rename_i h2
      rw [if_neg h2] at h
      exact ⟨(isB_lt h1).1, .inr (number_fo h).2⟩
  · rename_i h1
    rw [if_neg h1] at h
    exact ⟨h, .inr ha⟩
theorem times2_zero {st : Sc} {a : Int} (h : (times2 s a st).2.e = 0) : st.e = 0 := by
  unfold times2 at h
  split at h
  · rename_i h1; exact (isB_lt h1).1
  · exact h
theorem times_fo {st : Sc} (h : (timesS s st).2.e = 0) : 0 ≤ (timesS s st).1.1 ∧ (timesS s st).1.1 ≤ 2147483647 ∧ ((timesS s st).1.2 = -1 ∨ (timesS s st).1.1 ≤ (timesS s st).1.2 ∧ (timesS s st).1.2 ≤ 2147483647) := by
  unfold timesS at h ⊢
  dsimp only at h ⊢
  split at h
  · exact (fail_zero two_ne h).elim
  · rename_i hc
    have h1 := must_zero h
    have h2 := number_fo (times2_zero h1)
    have h3 := (times2_fo h2.2 h1).2
    refine ⟨h2.2.1, h2.2.2, ?_⟩
    rcases h3 with h3 | h3
    · exact .inl h3
    · right; omega
theorem step_fo {m : Mc} (h : FoM m) (he : (stepM s m).sc.e = 0) : FoM (stepM s m) := by
  obtain ⟨sc, top, rest⟩ := m
  obtain ⟨ht, hr⟩ := h
  dsimp only at ht hr
  have hi : ∀ {c : Prop} [Decidable c] {x y : Mc}, (c → x.sc.e = 0 → FoM x) → (¬ c → y.sc.e = 0 → FoM y) → (if c then x else y).sc.e = 0 → FoM (if c then x else y) := fun {c} _ {x y} h1 h2 h3 => by
    by_cases hc : c
    · rw [if_pos hc] at h3 ⊢; exact h1 hc h3
    · rw [if_neg hc] at h3 ⊢; exact h2 hc h3
  revert he
  unfold stepM Mc.repeat_ Mc.put
  dsimp only
  refine hi (fun _ _ => ⟨FoL.nil, fun v hv => ?_⟩) fun _ => hi (fun _ he => ?_) fun _ => hi (fun _ _ => ⟨ht.close, hr⟩) fun _ => hi (fun _ => hi (fun _ he => (fail_zero two_ne he).elim) fun _ _ => ⟨ht.rep (by omega) (by omega) (.inl rfl), hr⟩) fun _ =>
    hi (fun _ => hi (fun _ he => (fail_zero two_ne he).elim) fun _ _ => ⟨ht.rep (by omega) (by omega) (.inl rfl), hr⟩) fun _ => hi (fun _ => hi (fun _ he => (fail_zero two_ne he).elim) fun _ _ => ⟨ht.rep (by omega) (by omega) (.inr (by omega)), hr⟩) fun _ =>
    hi (fun _ => hi (fun _ he => (fail_zero two_ne he).elim) fun _ he => ?_) fun _ => hi (fun _ _ => ⟨ht.put (fo_setN _), hr⟩) fun _ => hi (fun _ _ => ⟨ht.put (fo_setN _), hr⟩) fun _ => hi (fun _ _ => ⟨ht.put (fo_setN _), hr⟩) fun _ =>
    hi (fun _ he => (fail_zero two_ne he).elim) fun _ _ => ⟨ht.put (fo_setN _), hr⟩
  · rcases List.mem_cons.1 hv with rfl | hv
    · exact ht
    · exact hr v hv
  · cases rest with
    | nil => exact (fail_zero two_ne he).elim
    | cons p r => exact ⟨(hr p (by simp)).put ht.done, fun v hv => hr v (List.mem_cons_of_mem _ hv)⟩
  · have := times_fo he
    exact ⟨ht.rep this.1 this.2.1 this.2.2, hr⟩
theorem run_fo : ∀ (d : Nat) (m : Mc), s.size - m.sc.at_ ≤ d → FoM m → (runF s m).sc.e = 0 → FoM (runF s m)
  | d, m, hd, h, he => by
    by_cases hg : goes s m.sc
    · rw [runF_go hg] at he ⊢
      cases d with
      | zero => have := hg.2; omega
      | succ d =>
        have h1 := (step_at hg).1
        by_cases h0 : (stepM s m).sc.e = 0
        · exact run_fo d _ (by omega) (step_fo h h0) he
        · rw [runF_stop (fun g => h0 g.1)] at he
          exact (h0 he).elim
    · rw [runF_stop hg]; exact h
/-- A tree that comes is formed. -/
theorem parse_formed (h : (parseS s).e = 0) : formedT (parseS s).t = true := by
  obtain ⟨_, h1, _, h3, _⟩ := parse_ok h
  rw [← h3]
  exact (run_fo _ m0 (Nat.le_refl _) ⟨FoL.nil, fun v hv => by cases hv⟩ h1).top.done
end Go.Proofs.Ytmkcbbamfkafmaa.P
/- The document's reader: what its printed functions come to, in the scanner's words. -/
namespace Go.Proofs.Ytmkcbbamfkafmaa.P
open Go.RowKit Go.Proofs.Ytmkcbbamfkafmaa Go.Proofs.YtmkcbbamfkafmaaW.PrintWords Go.Proofs.YtmkcbbamfkafmaaW.PrintLast Go.Proofs.YtmkcbbamfkafmaaW.PrintMore
set_option linter.unusedVariables false
set_option linter.unusedSimpArgs false
theorem bt_gb (s : ByteArray) (i : Nat) : bt s (i : Int) = gb s i := by unfold bt gb; simp only [Int.toNat_natCast]
theorem w64i {n : Int} (h0 : -9223372036854775808 ≤ n) (h1 : n ≤ 9223372036854775807) : wrap64 n = n := by unfold wrap64; omega
/-- The next byte; -1 at the end, and behind an error. -/
def nextV (s : ByteArray) (st : Sc) : Int := if goes s st then gb s st.at_ else -1
section
variable {s : ByteArray} {st : Sc}
theorem next_f : ostinatoref02_Reader_next.f s st.at_ st.pl st.e = some (nextV s st, s, (st.at_ : Int), st.pl, st.e) := by
  have hr := gb_range s st.at_
  unfold ostinatoref02_Reader_next.f nextV
  by_cases he : st.e = 0
  · rw [if_pos he]
    by_cases hl : st.at_ < s.size
    · rw [if_neg (by omega), if_pos (by omega), if_pos (by omega), bt_gb, w64i (by omega) (by omega), if_pos ⟨he, hl⟩]
    · rw [if_pos (by omega), if_neg (fun h => hl h.2)]
  · rw [if_neg he, if_neg (fun h => he h.1)]
theorem isB_next {c : Int} (h0 : 0 ≤ c) : isB s st c = decide (nextV s st = c) := by
  unfold isB nextV goes
  by_cases he : st.e = 0
  · by_cases hl : st.at_ < s.size
    · simp [he, hl]
    · simp [he, hl]; omega
  · simp [he]; omega
theorem take_yes {c : Int} (h0 : 0 ≤ c) (h1 : c < 256) (hs : s.size ≤ 1000) (h : isB s st c = true) : ostinatoref02_Reader_take.f s st.at_ st.pl st.e c = some (true, s, ((st.at_ + 1 : Nat) : Int), st.pl, st.e) := by
  have hl := (isB_lt h).2.1
  rw [isB_next h0, decide_eq_true_eq] at h
  unfold ostinatoref02_Reader_take.f
  rw [next_f, Option.bind_some]
  dsimp only
  rw [if_pos (by rw [h, w64i (by omega) (by omega)]), w64i (by omega) (by omega)]
  rfl
theorem take_no {c : Int} (h0 : 0 ≤ c) (h1 : c < 256) (h : isB s st c = false) : ostinatoref02_Reader_take.f s st.at_ st.pl st.e c = some (false, s, (st.at_ : Int), st.pl, st.e) := by
  rw [isB_next h0, decide_eq_false_iff_not] at h
  unfold ostinatoref02_Reader_take.f
  rw [next_f, Option.bind_some]
  dsimp only
  rw [if_neg (by rw [w64i (by omega) (by omega)]; exact h)]
theorem fail_f (p e : Int) : ostinatoref02_Reader_fail.f s st.at_ st.pl st.e p e = some (s, (st.at_ : Int), (st.fail p e).pl, (st.fail p e).e) := by
  unfold ostinatoref02_Reader_fail.f Sc.fail
  split <;> rfl
theorem take_f {c : Int} (h0 : 0 ≤ c) (h1 : c < 256) (hs : s.size ≤ 1000) : ostinatoref02_Reader_take.f s st.at_ st.pl st.e c = some (isB s st c, s, ((mayS s st c).at_ : Int), (mayS s st c).pl, (mayS s st c).e) := by
  cases h : isB s st c with
  | true => rw [take_yes h0 h1 hs h]; unfold mayS; rw [h, if_pos rfl]; rfl
  | false => rw [take_no h0 h1 h]; unfold mayS; rw [h, if_neg (by decide)]
/-! #### in a list -/
theorem in_esc0 : ∀ c : Fin 256, ostinatoref02_in.f 17 escS (c.1 : Int) = some (escC (c.1 : Int)) := by decide +kernel
theorem in_in0 : ∀ c : Fin 256, ostinatoref02_in.f 17 inS (c.1 : Int) = some (inC (c.1 : Int)) := by decide +kernel
theorem in_end0 : ∀ c : Fin 256, ostinatoref02_in.f 17 ⟨#[41, 124]⟩ (c.1 : Int) = some ((c.1 : Int) == 41 || (c.1 : Int) == 124) := by decide +kernel
theorem in_bad0 : ∀ c : Fin 256, ostinatoref02_in.f 17 ⟨#[93, 125, 42, 43, 63, 123]⟩ (c.1 : Int) = some (badC (c.1 : Int)) := by decide +kernel
/-! #### digits -/
theorem hex_list0 : ∀ i : Fin 16, hexI (bt hexS (i.1 : Int)) = (i.1 : Int) ∧ 0 ≤ bt hexS (i.1 : Int) ∧ bt hexS (i.1 : Int) < 256 := by decide +kernel
theorem hex_inv0 : ∀ c : Fin 256, 0 ≤ hexI (c.1 : Int) → bt hexS (hexI (c.1 : Int)) = (c.1 : Int) := by decide +kernel
theorem digit_go (hs : s.size ≤ 1000) (hg : goes s st) : ∀ d j : Nat, j + d = 16 → (∀ i : Nat, i < j → bt hexS (i : Int) ≠ gb s st.at_) →
    ostinatoref02_Reader_digit.l0 (d + 1) hexS (j : Int) s st.at_ st.pl st.e = some ((digitS s st).1, s, ((digitS s st).2.at_ : Int), (digitS s st).2.pl, (digitS s st).2.e)
  | 0, j, hj, hn => by
    have hr := gb_range s st.at_
    have hneg : ¬ 0 ≤ hexI (gb s st.at_) := fun h => by
      obtain ⟨c, hc⟩ := fin_of hr.1 hr.2
      rw [hc] at h hn
      have h1 := hex_inv0 c h
      have h2 := hexI_range (c.1 : Int)
      refine hn (hexI (c.1 : Int)).toNat (by omega) ?_
      rw [Int.toNat_of_nonneg h]
      exact h1
    simp only [ostinatoref02_Reader_digit.l0]
    rw [if_neg (by show ¬ (j : Int) < 16; omega), fail_f, Option.bind_some]
    unfold digitS
    rw [if_neg (fun h => hneg h.2.2)]
    dsimp only
    rw [fail_at]
  | d + 1, j, hj, hn => by
    have hf := hex_list0 ⟨j, by omega⟩
    simp only [ostinatoref02_Reader_digit.l0]
    rw [if_pos (by show (j : Int) < 16; omega), if_pos (by omega)]
    cases hb : isB s st (bt hexS (j : Int)) with
    | true =>
      have hc := (isB_lt hb).2.2
      rw [take_yes hf.2.1 hf.2.2 hs hb, Option.bind_some]
      dsimp only
      rw [if_pos rfl]
      unfold digitS
      rw [if_pos ⟨hg.1, hg.2, by rw [hc, hf.1]; omega⟩, hc, hf.1]
      rfl
    | false =>
      rw [take_no hf.2.1 hf.2.2 hb, Option.bind_some]
      dsimp only
      rw [if_neg (by decide), w64i (by omega) (by omega), show (j : Int) + 1 = ((j + 1 : Nat) : Int) by omega]
      refine digit_go hs hg d (j + 1) (by omega) fun i hi => ?_
      by_cases h : i = j
      · subst h
        intro e
        rw [e, isB_self hg] at hb
        cases hb
      · exact hn i (by omega)
theorem digit_stop (hs : s.size ≤ 1000) (hg : ¬ goes s st) : ∀ d j : Nat, j + d = 16 → ostinatoref02_Reader_digit.l0 (d + 1) hexS (j : Int) s st.at_ st.pl st.e = some ((digitS s st).1, s, ((digitS s st).2.at_ : Int), (digitS s st).2.pl, (digitS s st).2.e)
  | 0, j, hj => by
    simp only [ostinatoref02_Reader_digit.l0]
    rw [if_neg (by show ¬ (j : Int) < 16; omega), fail_f, Option.bind_some]
    unfold digitS
    rw [if_neg (fun h => hg ⟨h.1, h.2.1⟩)]
    dsimp only
    rw [fail_at]
  | d + 1, j, hj => by
    have hf := hex_list0 ⟨j, by omega⟩
    have hb : isB s st (bt hexS (j : Int)) = false := by
      cases hb : isB s st (bt hexS (j : Int)) with
      | false => rfl
      | true => exact absurd ⟨(isB_lt hb).1, (isB_lt hb).2.1⟩ hg
    simp only [ostinatoref02_Reader_digit.l0]
    rw [if_pos (by show (j : Int) < 16; omega), if_pos (by omega), take_no hf.2.1 hf.2.2 hb, Option.bind_some]
    dsimp only
    rw [if_neg (by decide), w64i (by omega) (by omega), show (j : Int) + 1 = ((j + 1 : Nat) : Int) by omega]
    exact digit_stop hs hg d (j + 1) (by omega)
theorem digit_f (hs : s.size ≤ 1000) : ostinatoref02_Reader_digit.f 17 s st.at_ st.pl st.e hexS = some ((digitS s st).1, s, ((digitS s st).2.at_ : Int), (digitS s st).2.pl, (digitS s st).2.e) := by
  unfold ostinatoref02_Reader_digit.f
  by_cases hg : goes s st
  · exact digit_go hs hg 16 0 rfl (fun i hi => by omega)
  · exact digit_stop hs hg 16 0 rfl
end
end Go.Proofs.Ytmkcbbamfkafmaa.P
/- The document's reader: escape, item, number, in the scanner's words; the calls. -/
namespace Go.Proofs.Ytmkcbbamfkafmaa.P
open Go.RowKit Go.Proofs.Ytmkcbbamfkafmaa Go.Proofs.YtmkcbbamfkafmaaW.PrintWords Go.Proofs.YtmkcbbamfkafmaaW.PrintLast Go.Proofs.YtmkcbbamfkafmaaW.PrintMore
set_option linter.unusedVariables false
set_option linter.unusedSimpArgs false
section
variable {s : ByteArray} {st : Sc}
theorem nextV_go (h : goes s st) : nextV s st = gb s st.at_ := if_pos h
theorem nextV_no (h : ¬ goes s st) : nextV s st = -1 := if_neg h
theorem next_tail (hs : s.size ≤ 1000) {b : Int × ByteArray × Int × Int × Int} (L : ByteArray) (good : Int → Bool) (flip : Bool) (hL : ∀ c : Fin 256, ostinatoref02_in.f 17 L (c.1 : Int) = some (good (c.1 : Int))) (hg : goes s st) :
    ostinatoref02_in.f 17 L (gb s st.at_ % 256) = some (good (gb s st.at_)) := by
  have hr := gb_range s st.at_
  obtain ⟨c, hc⟩ := fin_of hr.1 hr.2
  rw [show gb s st.at_ % 256 = gb s st.at_ by omega, hc]
  exact hL c
theorem escape_f (hs : s.size ≤ 1000) (h0 : st.e = 0) : ostinatoref02_Reader_escape.f 17 s st.at_ st.pl st.e = some ((escapeS s st).1, s, ((escapeS s st).2.at_ : Int), (escapeS s st).2.pl, (escapeS s st).2.e) := by
  have hr := gb_range s st.at_
  unfold ostinatoref02_Reader_escape.f escapeS
  cases b1 : isB s st 110 with
  | true => rw [take_yes (by decide) (by decide) hs b1, Option.bind_some]; rfl
  | false =>
  rw [take_no (by decide) (by decide) b1, Option.bind_some]
  dsimp only
  rw [if_neg (by decide), if_neg (by decide)]
  cases b2 : isB s st 116 with
  | true => rw [take_yes (by decide) (by decide) hs b2, Option.bind_some]; rfl
  | false =>
  rw [take_no (by decide) (by decide) b2, Option.bind_some]
  dsimp only
  rw [if_neg (by decide), if_neg (by decide)]
  cases b3 : isB s st 120 with
  | true =>
    rw [take_yes (by decide) (by decide) hs b3, Option.bind_some]
    dsimp only
    rw [if_pos rfl, if_pos rfl]
    have d1 := digit_f (s := s) (st := st.adv) hs
    have d2 := digit_f (s := s) (st := (digitS s st.adv).2) hs
    have d1' : ostinatoref02_Reader_digit.f 17 s ((st.at_ + 1 : Nat) : Int) st.pl st.e hexS = _ := d1
    rw [show (⟨#[48, 49, 50, 51, 52, 53, 54, 55, 56, 57, 97, 98, 99, 100, 101, 102]⟩ : ByteArray) = hexS from rfl, d1', Option.bind_some]
    dsimp only
    rw [d2, Option.bind_some]
    dsimp only
    have r1 := digit_range s st.adv
    have r2 := digit_range s (digitS s st.adv).2
    rw [w64i (n := 16 * _) (by omega) (by omega), w64i (by omega) (by omega), Int.mul_comm]
  | false =>
  rw [take_no (by decide) (by decide) b3, Option.bind_some]
  dsimp only
  rw [if_neg (by decide), if_neg (by decide), next_f, Option.bind_some]
  dsimp only
  by_cases hl : st.at_ < s.size
  · have hg : goes s st := ⟨h0, hl⟩
    rw [nextV_go hg, if_neg (by omega), show (⟨#[40, 41, 91, 93, 123, 125, 124, 42, 43, 63, 46, 92, 45, 94]⟩ : ByteArray) = escS from rfl, next_tail hs (b := (0, s, 0, 0, 0)) escS escC true in_esc0 hg, Option.bind_some]
    by_cases hc : escC (gb s st.at_) = true
    · rw [if_pos hc, if_pos ⟨hl, hc⟩, w64i (by omega) (by omega)]
      rfl
    · rw [if_neg hc, if_neg (fun h => hc h.2), fail_f, Option.bind_some]
      dsimp only
      rw [fail_at]
  · rw [nextV_no (fun h => hl h.2), if_pos (by decide), fail_f, Option.bind_some, if_neg (fun h => hl h.1)]
    dsimp only
    rw [fail_at]
theorem item_f (hs : s.size ≤ 1000) : ostinatoref02_Reader_item.f 17 s st.at_ st.pl st.e = some ((itemS s st).1, s, ((itemS s st).2.at_ : Int), (itemS s st).2.pl, (itemS s st).2.e) := by
  have hr := gb_range s st.at_
  unfold ostinatoref02_Reader_item.f itemS
  cases b1 : isB s st 92 with
  | true =>
    rw [take_yes (by decide) (by decide) hs b1, Option.bind_some]
    dsimp only
    rw [if_pos rfl, if_pos rfl]
    have d1 := escape_f (s := s) (st := st.adv) hs (isB_lt b1).1
    have d1' : ostinatoref02_Reader_escape.f 17 s ((st.at_ + 1 : Nat) : Int) st.pl st.e = _ := d1
    rw [d1', Option.bind_some]
  | false =>
  rw [take_no (by decide) (by decide) b1, Option.bind_some]
  dsimp only
  rw [if_neg (by decide), if_neg (by decide), next_f, Option.bind_some]
  dsimp only
  by_cases hg : goes s st
  · rw [nextV_go hg, if_neg (by omega), show (⟨#[93, 92, 45, 94]⟩ : ByteArray) = inS from rfl, next_tail hs (b := (0, s, 0, 0, 0)) inS inC true in_in0 hg, Option.bind_some]
    cases hc : inC (gb s st.at_) with
    | true =>
      rw [if_pos rfl, if_neg (fun h => by have := h.2.2; cases this), fail_f, Option.bind_some]
      dsimp only
      rw [fail_at]
    | false =>
      rw [if_neg (by decide), if_pos ⟨hg.1, hg.2, rfl⟩, w64i (by omega) (by have := hg.2; omega)]
      rfl
  · rw [nextV_no hg, if_pos (by decide), fail_f, Option.bind_some, if_neg (fun h => hg ⟨h.1, h.2.1⟩)]
    dsimp only
    rw [fail_at]
end
/-- How a number ends. -/
def numEnd (s : ByteArray) (fr : Nat) (pl : Int) (r : Int × Nat) : Option (Int × ByteArray × Int × Int × Int) :=
  if r.2 = fr then some (r.1, s, (r.2 : Int), (fr : Int), 2) else if r.1 > 2147483647 then some (r.1, s, (r.2 : Int), (fr : Int), 3) else some (r.1, s, (r.2 : Int), pl, 0)
theorem number_j (s : ByteArray) (fr a k : Nat) (pl n : Int) : ostinatoref02_Reader_number.j1 (k + 1) (fr : Int) n false s (a : Int) pl 0 = numEnd s fr pl (n, a) := by
  have f2 := fail_f (s := s) (st := ⟨a, pl, 0⟩) (fr : Int) 2
  have f3 := fail_f (s := s) (st := ⟨a, pl, 0⟩) (fr : Int) 3
  have g3 := fail_f (s := s) (st := ⟨a, fr, 2⟩) (fr : Int) 3
  dsimp only at f2 f3 g3
  simp only [ostinatoref02_Reader_number.j1]
  unfold numEnd
  rw [if_neg (by decide)]
  by_cases h : a = fr
  · rw [if_pos (by omega), if_pos h, f2, Option.bind_some]
    dsimp only [Sc.fail]
    rw [if_pos rfl]
    by_cases h2 : n > 2147483647
    · rw [if_pos h2, g3, Option.bind_some]; rfl
    · rw [if_neg h2]
  · rw [if_neg (by omega), if_neg h]
    by_cases h2 : n > 2147483647
    · rw [if_pos h2, if_pos h2, f3, Option.bind_some]; rfl
    · rw [if_neg h2, if_neg h2]
theorem number_go (s : ByteArray) (hs : s.size ≤ 1000) (fr : Nat) (pl : Int) : ∀ (d a : Nat) (n : Int), a ≤ s.size → s.size - a ≤ d → 0 ≤ n → n ≤ 21474836479 →
    ostinatoref02_Reader_number.l0 (2 * d + 2) (fr : Int) n s (a : Int) pl 0 = numEnd s fr pl (numGoR s d n a)
  | d, a, n, ha, hd, h0, h1 => by
    have hr := gb_range s a
    have hnx := next_f (s := s) (st := ⟨a, pl, 0⟩)
    dsimp only at hnx
    rw [show 2 * d + 2 = (2 * d + 1) + 1 by omega]
    simp only [ostinatoref02_Reader_number.l0]
    rw [hnx, Option.bind_some]
    dsimp only
    by_cases hl : a < s.size
    · have hg : goes s (⟨a, pl, 0⟩ : Sc) := ⟨rfl, hl⟩
      rw [nextV_go hg]
      dsimp only
      cases d with
      | zero => omega
      | succ d =>
      rw [numGoR]
      by_cases hlo : gb s a ≥ 48
      · rw [if_pos hlo, hnx, Option.bind_some]
        dsimp only
        rw [nextV_go hg]
        dsimp only
        by_cases hhi : gb s a ≤ 57
        · rw [decide_eq_true hhi, if_pos (show digC s a from ⟨hl, hlo, hhi⟩), show 2 * (d + 1) + 1 = (2 * d + 2) + 1 by omega]
          simp only [ostinatoref02_Reader_number.j1]
          rw [if_pos trivial]
          by_cases hn : n ≤ 2147483647
          · rw [if_pos hn, if_pos hn, hnx, Option.bind_some]
            dsimp only
            rw [nextV_go hg]
            dsimp only
            rw [w64i (n := 10 * n) (by omega) (by omega), w64i (n := gb s a - 48) (by omega) (by omega), w64i (by omega) (by omega), w64i (by omega) (by omega)]
            exact number_go s hs fr pl d (a + 1) _ (by omega) (by omega) (by omega) (by omega)
          · rw [if_neg hn, if_neg hn, w64i (by omega) (by omega)]
            exact number_go s hs fr pl d (a + 1) _ (by omega) (by omega) (by omega) (by omega)
        · rw [decide_eq_false hhi, if_neg (show ¬ digC s a from fun h => hhi h.2.2), show 2 * (d + 1) + 1 = (2 * d + 2) + 1 by omega]
          exact number_j s fr a _ pl n
      · rw [if_neg hlo, if_neg (show ¬ digC s a from fun h => hlo h.2.1), show 2 * (d + 1) + 1 = (2 * d + 2) + 1 by omega]
        exact number_j s fr a _ pl n
    · have hg : ¬ goes s (⟨a, pl, 0⟩ : Sc) := fun h => hl h.2
      rw [nextV_no hg, if_neg (by decide)]
      have hz : numGoR s d n a = (n, a) := by
        cases d with
        | zero => rfl
        | succ d => rw [numGoR, if_neg (show ¬ digC s a from fun h => hl h.1)]
      rw [hz]
      exact number_j s fr a _ pl n
theorem number_f {s : ByteArray} {st : Sc} (hs : s.size ≤ 1000) (hat : st.at_ ≤ s.size) (h0 : st.e = 0) : ∃ k, ostinatoref02_Reader_number.f k s st.at_ st.pl st.e = some ((numberR s st).1, s, ((numberR s st).2.at_ : Int), (numberR s st).2.pl, (numberR s st).2.e) := by
  obtain ⟨a, pl, e⟩ := st
  dsimp only at h0 hat
  subst h0
  refine ⟨2 * (s.size - a) + 2, ?_⟩
  have hg := number_go s hs a pl (s.size - a) a 0 hat (Nat.le_refl _) (by omega) (by omega)
  unfold ostinatoref02_Reader_number.f
  dsimp only
  rw [hg]
  have hq := numGoR_eq (s := s) (s.size - a) 0 a (by omega)
  rw [show min (0 : Int) 2147483648 = 0 from rfl] at hq
  unfold numberR numberS numEnd
  rw [if_pos rfl, if_pos rfl, hq.1]
  dsimp only
  by_cases h1 : (numGoR s (s.size - a) 0 a).2 = a
  · rw [if_pos h1, if_pos h1, h1]
  · rw [if_neg h1, if_neg h1]
    by_cases h2 : (numGoR s (s.size - a) 0 a).1 > 2147483647
    · rw [if_pos h2, if_pos (by omega)]
    · rw [if_neg h2, if_neg (by omega)]
end Go.Proofs.Ytmkcbbamfkafmaa.P
/- The document's reader in memory; its small calls. -/
namespace Go.Proofs.Ytmkcbbamfkafmaa.P
open Go.RowKit Go.Proofs.Ytmkcbbamfkafmaa Go.Proofs.YtmkcbbamfkafmaaW.PrintWords Go.Proofs.YtmkcbbamfkafmaaW.PrintLast Go.Proofs.YtmkcbbamfkafmaaW.PrintMore
set_option linter.unusedVariables false
set_option linter.unusedSimpArgs false
/-- The reader of the document, in block R. -/
structure RdR (w : World) (R : Nat) (s : ByteArray) (st : Sc) : Prop where
  blk : w.heap[R]? = some (.cells #[.string s, .int .i64 (st.at_ : Int), .int .i64 st.pl, .int .i64 st.e] 56)
  hat : st.at_ ≤ s.size
  hsz : s.size ≤ 1000
namespace RdR
variable {w w' : World} {R : Nat} {s : ByteArray} {st : Sc}
theorem lt (h : RdR w R s st) : R < w.heap.size := blk_lt h.blk
theorem cells (h : RdR w R s st) : w.cell? ⟨R, 0, none⟩ = some (.string s) ∧ w.cell? ⟨R, 1, none⟩ = some (.int .i64 (st.at_ : Int)) ∧ w.cell? ⟨R, 2, none⟩ = some (.int .i64 st.pl) ∧ w.cell? ⟨R, 3, none⟩ = some (.int .i64 st.e) :=
  ⟨blk_cell h.blk 0, blk_cell h.blk 1, blk_cell h.blk 2, blk_cell h.blk 3⟩
theorem froz (h : RdR w R s st) : w.frozen? ⟨R, 1, none⟩ = false := blk_frozen h.blk 1
theorem keep (h : RdR w R s st) (hb : w'.heap[R]? = w.heap[R]?) : RdR w' R s st := ⟨hb.trans h.blk, h.hat, h.hsz⟩
theorem below (h : RdR w R s st) (hb : Below w.heap.size w w') : RdR w' R s st := h.keep (hb.block R h.lt)
theorem at_ (h : RdR w R s st) (n : Nat) (hn : n ≤ s.size) : RdR (w.setCell ⟨R, 1, none⟩ (.int .i64 (n : Int))) R s ⟨n, st.pl, st.e⟩ := ⟨blk_set h.blk 1 _, hn, h.hsz⟩
end RdR
/-- What lies ahead of a block. -/
def trunc (w : World) (R : Nat) : World := { w with heap := w.heap.extract 0 R }
theorem trunc_size {w : World} {R : Nat} (h : R < w.heap.size) : (trunc w R).heap.size = R := by simp [trunc]; omega
theorem trunc_below {w : World} {R : Nat} (h : R < w.heap.size) : Below (trunc w R).heap.size (trunc w R) w := by
  refine ⟨rfl, rfl, rfl, by rw [trunc_size h]; omega, fun k hk => ?_⟩
  rw [trunc_size h] at hk
  simp [trunc, Array.getElem?_extract]
  omega
theorem rdr_is {w : World} {R : Nat} {s : ByteArray} {st : Sc} (h : RdR w R s st) : IsS56 (trunc w R) w R s st.at_ st.pl st.e := ⟨h.blk, by rw [trunc_size h.lt]; exact Nat.le_refl _⟩
theorem rdr_end {w w' : World} {R : Nat} {s : ByteArray} {st st' : Sc} (h : RdR w R s st) (hat : st'.at_ ≤ s.size) (h1 : IsS56 (trunc w R) w' R s st'.at_ st'.pl st'.e) (h2 : Below (trunc w R).heap.size (trunc w R) w') (h3 : KeepBut w w' R none) :
    RdR w' R s st' ∧ Fr w.heap.size R w w' :=
  ⟨⟨h1.1, hat, h.hsz⟩, ⟨h2.os, h2.tape, h2.output, h3.1, fun k hk hne => h3.2 k hk hne (by simp)⟩⟩
section
variable (R : Nat) (s : ByteArray) (st : Sc) (w : World)
theorem rr_fail (p e : Int) (h : RdR w R s st) : Calls Try.prog 30 #[.pointer (some ⟨R, 0, none⟩), .int .i64 p, .int .i64 e] w fun x w' => x = .returned (.tuple #[]) ∧ RdR w' R s (st.fail p e) ∧ Fr w.heap.size R w w' :=
  (ostinatoref02_Reader_fail.calls R _ _ _ _ p e _ _ _ _ (trunc w R) w (rdr_is h) (trunc_below h.lt) (fail_f p e)).mono fun x w' ⟨h0, h1, h2, h3⟩ =>
    ⟨h0, rdr_end (st' := st.fail p e) h (by rw [fail_at]; exact h.hat) (by rw [fail_at]; exact h1) h2 h3⟩
theorem rr_next (h : RdR w R s st) : Calls Try.prog 57 #[.pointer (some ⟨R, 0, none⟩)] w fun x w' => x = .returned (.int .i64 (nextV s st)) ∧ RdR w' R s st ∧ Fr w.heap.size R w w' :=
  (ostinatoref02_Reader_next.calls R _ _ _ _ _ _ _ _ _ (trunc w R) w (rdr_is h) (trunc_below h.lt) next_f).mono fun x w' ⟨h0, h1, h2, h3⟩ => ⟨h0, rdr_end h h.hat h1 h2 h3⟩
theorem rr_take (c : Int) (h0 : 0 ≤ c) (h1 : c < 256) (h : RdR w R s st) : Calls Try.prog 45 #[.pointer (some ⟨R, 0, none⟩), .int .u8 c] w fun x w' => x = .returned (.bool (isB s st c)) ∧ RdR w' R s (mayS s st c) ∧ Fr w.heap.size R w w' :=
  (ostinatoref02_Reader_take.calls R _ _ _ _ c _ _ _ _ _ (trunc w R) w (rdr_is h) (trunc_below h.lt) (take_f h0 h1 h.hsz)).mono fun x w' ⟨k0, k1, k2, k3⟩ => ⟨k0, rdr_end h (le_may h.hat c).2 k1 k2 k3⟩
theorem rr_yes (c : Int) (h0 : 0 ≤ c) (h1 : c < 256) (h : RdR w R s st) (hb : isB s st c = true) : Calls Try.prog 45 #[.pointer (some ⟨R, 0, none⟩), .int .u8 c] w fun x w' => x = .returned (.bool true) ∧ RdR w' R s st.adv ∧ Fr w.heap.size R w w' := by
  have := rr_take R s st w c h0 h1 h
  unfold mayS at this
  rw [hb, if_pos rfl] at this
  exact this
theorem rr_no (c : Int) (h0 : 0 ≤ c) (h1 : c < 256) (h : RdR w R s st) (hb : isB s st c = false) : Calls Try.prog 45 #[.pointer (some ⟨R, 0, none⟩), .int .u8 c] w fun x w' => x = .returned (.bool false) ∧ RdR w' R s st ∧ Fr w.heap.size R w w' := by
  have := rr_take R s st w c h0 h1 h
  unfold mayS at this
  rw [hb, if_neg (by decide)] at this
  exact this
theorem rr_escape (he : st.e = 0) (h : RdR w R s st) : Calls Try.prog 67 #[.pointer (some ⟨R, 0, none⟩)] w fun x w' => x = .returned (.int .i64 (escapeS s st).1) ∧ RdR w' R s (escapeS s st).2 ∧ Fr w.heap.size R w w' :=
  (ostinatoref02_Reader_escape.calls 17 R _ _ _ _ _ _ _ _ _ (trunc w R) w (rdr_is h) (trunc_below h.lt) (escape_f h.hsz he)).mono fun x w' ⟨k0, k1, k2, k3⟩ => ⟨k0, rdr_end h (le_escape h.hat).2 k1 k2 k3⟩
theorem rr_item (h : RdR w R s st) : Calls Try.prog 71 #[.pointer (some ⟨R, 0, none⟩)] w fun x w' => x = .returned (.int .i64 (itemS s st).1) ∧ RdR w' R s (itemS s st).2 ∧ Fr w.heap.size R w w' :=
  (ostinatoref02_Reader_item.calls 17 R _ _ _ _ _ _ _ _ _ (trunc w R) w (rdr_is h) (trunc_below h.lt) (item_f h.hsz)).mono fun x w' ⟨k0, k1, k2, k3⟩ => ⟨k0, rdr_end h (le_item h.hat).2 k1 k2 k3⟩
theorem rr_number (he : st.e = 0) (h : RdR w R s st) : Calls Try.prog 56 #[.pointer (some ⟨R, 0, none⟩)] w fun x w' => x = .returned (.int .i64 (numberR s st).1) ∧ RdR w' R s (numberR s st).2 ∧ Fr w.heap.size R w w' := by
  obtain ⟨k, hk⟩ := number_f (s := s) (st := st) h.hsz h.hat he
  exact (ostinatoref02_Reader_number.calls k R _ _ _ _ _ _ _ _ _ (trunc w R) w (rdr_is h) (trunc_below h.lt) hk).mono fun x w' ⟨k0, k1, k2, k3⟩ => ⟨k0, rdr_end h (by rw [numberR_sc]; exact (le_number h.hat).2) k1 k2 k3⟩
end
end Go.Proofs.Ytmkcbbamfkafmaa.P
/- The document's reader: a class. -/
namespace Go.Proofs.Ytmkcbbamfkafmaa.P
open Go.RowKit Go.Proofs.Ytmkcbbamfkafmaa Go.Proofs.YtmkcbbamfkafmaaW.PrintWords Go.Proofs.YtmkcbbamfkafmaaW.PrintLast Go.Proofs.YtmkcbbamfkafmaaW.PrintMore
set_option linter.unusedVariables false
set_option linter.unusedSimpArgs false
/-- The load of an array of marks, under a name of its own. -/
def LoadS (v : Value) : Sem Value := Instr.loadAt 82 v
theorem loadS (v : Value) : Instr.loadAt 82 v = LoadS v := rfl
attribute [local go_sem ↓] loadS
theorem load_row (w : World) (g : Nat) (f : Nat → Value) (h : w.rowIs g 82 256 f) : ∃ cs : Array Value, cs.size = 256 ∧ (∀ i, i < 256 → cs[i]? = some (f i)) ∧ (LoadS (.pointer (some ⟨g, 0, none⟩))).run Try.prog w = .ok (.agg cs) w := by
  obtain ⟨cs, hb, hsz, hc⟩ := h
  refine ⟨cs, hsz, hc, ?_⟩
  have hr := run_loadVar_row (P := Try.prog) w g 82 82 cs (0, 0) _ hb Try.underlying82 rfl (by rw [hsz]; kernel_rfl)
  show (Instr.loadAt _ _).run _ _ = _
  simp [Instr.loadAt, Instr.sureAddr, hr]
theorem zero82 (W : World) : (zeroValue 82).run Try.prog W = .ok (.agg (Array.replicate 256 (.bool false))) W := by kernel_rfl
/-- The walk of a class, in memory. -/
structure SetR (w wr : World) (R : Nat) (s : ByteArray) (H : Nat) (st : Sc) (f : Nat → Bool) : Prop where
  rd : RdR wr R s st
  res : wr.rowIs w.heap.size 25 4 (fun _ => .int .u64 0)
  has : wr.rowIs H 82 256 (fun q => .bool (f q))
  fr : Fr w.heap.size R w wr
  ne : w.heap.size < H
  lt : R < w.heap.size
namespace SetR
variable {w wr w' : World} {R H : Nat} {s : ByteArray} {st st' : Sc} {f g : Nat → Bool}
theorem call (h : SetR w wr R s H st f) (hr : RdR w' R s st') (hf : Fr wr.heap.size R wr w') : SetR w w' R s H st' f :=
  ⟨hr, h.res.of_block (hf.block _ h.res.lt (by have := h.lt; omega)), h.has.of_block (hf.block _ h.has.lt (by have := h.lt; have := h.ne; omega)),
    h.fr.trans (hf.mono h.fr.size), h.ne, h.lt⟩
theorem drewN (h : SetR w wr R s H st f) (n : Nat) : SetR w (wr.drewN n) R s H st f := h.call (h.rd.keep rfl) (fr_drewN' _ _ _ _)
theorem put (h : SetR w wr R s H st f) {b : Nat} (hb : b < 256) : SetR w (wr.setCell ⟨H, b, none⟩ (.bool true)) R s H st (fun q => f q || decide (q = b)) := by
  have h1 := h.ne
  have h2 := h.lt
  refine ⟨h.rd.keep (Below.heap_setCell _ _ _ _ (by show R ≠ H; omega)), h.res.setOther (a := ⟨H, b, none⟩) (by show w.heap.size ≠ H; omega) _, (h.has.set b _).congr fun q hq => ?_, h.fr.setCell (p := ⟨H, b, none⟩) (.inl (by show w.heap.size ≤ H; omega)) _, h.ne, h.lt⟩
  by_cases e : q = b
  · rw [if_pos e, decide_eq_true e, Bool.or_true]
  · rw [if_neg e, decide_eq_false e, Bool.or_false]
theorem flip (h : SetR w wr R s H st f) {b : Nat} (hb : b < 256) : SetR w (wr.setCell ⟨H, b, none⟩ (.bool (!f b))) R s H st (fun q => if q = b then !f b else f q) := by
  have h1 := h.ne
  have h2 := h.lt
  refine ⟨h.rd.keep (Below.heap_setCell _ _ _ _ (by show R ≠ H; omega)), h.res.setOther (a := ⟨H, b, none⟩) (by show w.heap.size ≠ H; omega) _, (h.has.set b _).congr fun q hq => ?_, h.fr.setCell (p := ⟨H, b, none⟩) (.inl (by show w.heap.size ≤ H; omega)) _, h.ne, h.lt⟩
  by_cases e : q = b
  · rw [if_pos e, if_pos e]
  · rw [if_neg e, if_neg e]
theorem congr (h : SetR w wr R s H st f) (hfg : ∀ q, q < 256 → f q = g q) : SetR w wr R s H st g :=
  ⟨h.rd, h.res, h.has.congr fun q hq => by rw [hfg q hq], h.fr, h.ne, h.lt⟩
end SetR
/-- What is left of a class. -/
def RestS (s : ByteArray) (b : Bool) (f : Nat → Bool) (st : Sc) (fin : (Nat → Bool) × Sc) : Prop :=
  if b = true then (∀ q, f q = false) ∧ setGo s (s.size + 3) (inR (itemsS s st).1.1 (itemsS s st).1.2) (itemsS s st).2 = fin
  else ∃ n, (st.e = 0 → s.size + 1 - st.at_ < n) ∧ 1 ≤ n ∧ setGo s n f st = fin
def measS (s : ByteArray) (st : Sc) : Nat := if st.e = 0 then s.size + 2 - st.at_ else 0
section
variable {s : ByteArray} {f : Nat → Bool} {st : Sc} {fin : (Nat → Bool) × Sc}
theorem rest_first (h : RestS s true f st fin) : RestS s false (fun q => f q || inR (itemsS s st).1.1 (itemsS s st).1.2 q) (itemsS s st).2 fin := by
  unfold RestS at *
  rw [if_pos rfl] at h
  rw [if_neg (by decide)]
  refine ⟨s.size + 3, fun _ => by omega, by omega, ?_⟩
  rw [show (fun q => f q || inR (itemsS s st).1.1 (itemsS s st).1.2 q) = inR (itemsS s st).1.1 (itemsS s st).1.2 from funext fun q => by rw [h.1 q, Bool.false_or]]
  exact h.2
theorem rest_next (h : RestS s false f st fin) (hat : st.at_ ≤ s.size) (he : st.e = 0) (hb : isB s st 93 = false) : RestS s false (fun q => f q || inR (itemsS s st).1.1 (itemsS s st).1.2 q) (itemsS s st).2 fin := by
  unfold RestS at *
  rw [if_neg (by decide)] at h ⊢
  obtain ⟨n, h1, h2, h3⟩ := h
  have h4 := h1 he
  obtain ⟨n, rfl⟩ : ∃ m, n = m + 1 := ⟨n - 1, by omega⟩
  rw [setGo, if_pos he, hb, if_neg (by decide)] at h3
  refine ⟨n, fun e => ?_, by omega, h3⟩
  have := itemsP (a := s) hat e
  omega
theorem rest_err (h : RestS s false f st fin) (he : st.e ≠ 0) : fin = (f, st) := by
  unfold RestS at h
  rw [if_neg (by decide)] at h
  obtain ⟨n, h1, h2, h3⟩ := h
  rw [← h3, setGo_ne he]
theorem rest_shut (h : RestS s false f st fin) (he : st.e = 0) (hb : isB s st 93 = true) : fin = (f, st.adv) := by
  unfold RestS at h
  rw [if_neg (by decide)] at h
  obtain ⟨n, h1, h2, h3⟩ := h
  obtain ⟨n, rfl⟩ : ∃ m, n = m + 1 := ⟨n - 1, by omega⟩
  rw [setGo, if_pos he, hb, if_pos rfl] at h3
  exact h3.symm
theorem meas_next (hat : st.at_ ≤ s.size) (he : st.e = 0) : measS s (itemsS s st).2 + 1 ≤ measS s st := by
  unfold measS
  rw [if_pos he]
  by_cases h : (itemsS s st).2.e = 0
  · rw [if_pos h]
    have := itemsP (a := s) hat h
    have := (le_items (s := s) hat).2
    omega
  · rw [if_neg h]; omega
end
end Go.Proofs.Ytmkcbbamfkafmaa.P
/- The document's reader: a class, walked. Written by wip/gen_set.py. -/
namespace Go.Proofs.Ytmkcbbamfkafmaa.P
open Go.RowKit Go.Proofs.Ytmkcbbamfkafmaa Go.Proofs.YtmkcbbamfkafmaaW.PrintWords Go.Proofs.YtmkcbbamfkafmaaW.PrintLast Go.Proofs.YtmkcbbamfkafmaaW.PrintMore
set_option linter.unusedVariables false
set_option linter.unusedSimpArgs false
attribute [local go_sem ↓] loadS
set_option maxHeartbeats 16000000 in
theorem rr_set (R : Nat) (s : ByteArray) (st : Sc) (w : World) (he : st.e = 0) (h : RdR w R s st) : Calls Try.prog 65 #[.pointer (some ⟨R, 0, none⟩)] w fun x w' => x = .returned (cV (setS s st).1) ∧ RdR w' R s (setS s st).2 ∧ Fr w.heap.size R w w' := by
  have hz82 := zero82
  obtain ⟨Z, hZ⟩ : ∃ Z, Z = Array.replicate 256 (Value.bool false) := ⟨_, rfl⟩
  rw [← hZ] at hz82
  have HZS : Hid (Z.size = 256) := Lib.hid (by rw [hZ]; simp)
  have HZF : Hid (∀ i, i < 256 → Z[i]? = some (Value.bool false)) := Lib.hid fun i h => by rw [hZ]; simp [h]
  have hsz := h.hsz
  have hlt := h.lt
  have hat := h.hat
  have h1 := h.below ((Below.refl _ w).alloc (Nat.le_refl _) (.cells #[.int .u64 0, .int .u64 0, .int .u64 0, .int .u64 0] 25))
  have htk := rr_take R s st _ 94 (by decide) (by decide) h1
  have hres0 := row4_new w (fun _ => .int .u64 0) 25
  have hfr0 : Fr w.heap.size R w (w.alloc (.cells #[.int .u64 0, .int .u64 0, .int .u64 0, .int .u64 0] 25)) := (Fr.refl _ _ w).alloc (Nat.le_refl _) _
  obtain ⟨nb, hnb⟩ : ∃ nb, nb = isB s st 94 := ⟨_, rfl⟩
  obtain ⟨st0, hst0⟩ : ∃ st0, st0 = mayS s st 94 := ⟨_, rfl⟩
  have he0 : st0.e = 0 := by rw [hst0]; unfold mayS; split <;> exact he
  obtain ⟨fin, hfin⟩ : ∃ fin, fin = setGo s (s.size + 3) (inR (itemsS s st0).1.1 (itemsS s st0).1.2) (itemsS s st0).2 := ⟨_, rfl⟩
  have HSET : Hid (setS s st = (if nb = true then (fun q => !fin.1 q) else fin.1, fin.2)) := Lib.hid (by unfold setS; rw [← hst0, ← hnb]; dsimp only; rw [← hfin])
  have HR0 : Hid (RestS s true (fun _ => false) st0 fin) := Lib.hid (by unfold RestS; rw [if_pos rfl]; exact ⟨fun _ => rfl, hfin.symm⟩)
  rw [← hnb, ← hst0] at htk
  clear hZ hnb hst0 hfin h1 h
  go_enter Try.func65, Try.ntmps65
  go_wp2_with fail
  refine htk.mono ?_
  rintro x w2 ⟨rfl, hr2, hf2⟩
  have hne : w.heap.size < w2.heap.size := by have := hf2.size; simp at this; omega
  have hS0 : SetR w (w2.alloc (.cells Z 82)) R s w2.heap.size st0 (fun _ => false) :=
    ⟨hr2.below ((Below.refl _ w2).alloc (Nat.le_refl _) _), (hres0.of_block (hf2.block _ hres0.lt (by omega))).alloc _, row_box w2 Z _ HZS.out HZF.out, (hfr0.trans (hf2.mono (by simp))).alloc (by omega) _, hne, hlt⟩
  have HS0 := Lib.hid hS0
  clear htk hres0 hfr0 hr2 hf2 hS0
  go_wp2_with fail
  go_loopg [5] (s.size + 4) (fun gg s5 wr => ∃ (b : Bool) (f : Nat → Bool) (st1 : Sc), s5 = .bool b ∧ SetR w wr R s w2.heap.size st1 f ∧ measS s st1 + 1 ≤ gg ∧ (b = true → st1.e = 0) ∧ Hid (RestS s b f st1 fin))
  case atStart => exact ⟨true, _, st0, rfl, HS0.out, by unfold measS; split <;> omega, fun _ => he0, HR0⟩
  case round =>
    obtain ⟨b, f, st1, rfl, hS, hgg, hbe, hRS⟩ := hrel
    clear HS0
    obtain ⟨c0, c1, c2, c3⟩ := hS.rd.cells
    have hat1 := hS.rd.hat
    by_cases he1 : st1.e = 0
    · rw [he1] at c3
      cases b with
      | true =>
        have hRS2 := rest_first hRS.out
        have hME2 := meas_next hat1 he1
        have hitv := item_val (s := s) (st := st1)
        obtain ⟨lo, hlo⟩ : ∃ lo : Nat, (lo : Int) = (itemS s st1).1 := ⟨(itemS s st1).1.toNat, Int.toNat_of_nonneg hitv.1⟩
        have hlo2 : lo < 256 := by omega
        obtain ⟨st2, hst2⟩ : ∃ st2, st2 = (itemS s st1).2 := ⟨_, rfl⟩
        have hit := rr_item R s st1 wr hS.rd
        rw [← hlo, ← hst2] at hit
        have HLO := Lib.hid hlo
        have HST2 := Lib.hid hst2
        have HRS := Lib.hid hRS2
        have HME := Lib.hid hME2
        clear hitv hRS2 hME2 hbe he1 hlo hst2
        go_wp2_with fail
        refine hit.mono ?_
        rintro x w5 ⟨rfl, hr5, hf5⟩
        have hS5 := hS.call hr5 hf5
        obtain ⟨c0, c1, c2, c3⟩ := hr5.cells
        clear hit hS hr5 hf5
        go_wp2_with fail
        go_region
        have hS6 := hS5.drewN 1
        have hS6' : SetR w w5.drew R s w2.heap.size st2 f := hS6
        clear c0 c1 c2 c3 hS5 hS6
        cases hb45 : isB s st2 45 with
        | false =>
          have htk := rr_no R s st2 w5.drew 45 (by decide) (by decide) hS6'.rd hb45
          have QIT : Hid (itemsS s st1 = (((lo : Int), (lo : Int)), st2)) := Lib.hid (by rw [items_one (by rw [← HST2.out]; exact hb45), ← HLO.out, ← HST2.out])
          go_wp2_with fail
          refine htk.mono ?_
          rintro x w7 ⟨rfl, hr7, hf7⟩
          have hSN := hS6'.call hr7 hf7
          clear htk hr7 hf7 hS6'
          go_wp2_with fail
          go_loopg [9] 257 (fun gg s9 wi => ∃ k : Nat, lo ≤ k ∧ k ≤ 256 ∧ (k ≤ lo ∨ k ≤ lo + 1) ∧ 256 - k + 1 ≤ gg ∧ s9 = .int .i64 k ∧ SetR w wi R s w2.heap.size st2 (fun q => f q || decide (lo ≤ q ∧ q < k)))
          case atStart => exact ⟨lo, Nat.le_refl _, by omega, .inl (Nat.le_refl _), by omega, rfl, hSN.congr fun q _ => by rw [decide_eq_false (by omega), Bool.or_false]⟩
          case round =>
            obtain ⟨k, k1, k2, k3, k4, rfl, hK⟩ := hrel
            by_cases hkh : k ≤ lo
            · have hkz : (k : Int) ≤ (lo : Int) := by omega
              have hk256 : k < 256 := by omega
              have f1 := hK.has.frozen k
              have cc := hK.has.cell hk256
              have hP := (hK.put hk256).congr (g := fun q => f q || decide (lo ≤ q ∧ q < k + 1)) (fun q _ => by cases f q <;> simp only [Bool.true_or, Bool.false_or] <;> (rw [Bool.eq_iff_iff]; simp; omega))
              have HPP := Lib.hid hP
              clear hP hK
              go_wp2
              go_roundg (256 - k)
              case measure => omega
              case rel => exact ⟨k + 1, by omega, by omega, .inr (by omega), by omega, by go_num, HPP.out⟩
            · have hkz : ¬ (k : Int) ≤ (lo : Int) := by omega
              have hE := hK.congr (g := fun q => f q || inR (lo : Int) (lo : Int) q) (fun q _ => by unfold inR; cases f q <;> simp only [Bool.true_or, Bool.false_or] <;> (rw [Bool.eq_iff_iff]; simp; omega))
              have HE := Lib.hid hE
              clear hE hK
              go_wp2
              go_roundg (measS s st2 + 1)
              case measure => have := HME.out; rw [QIT.out] at this; dsimp only at this; omega
              case rel => exact ⟨false, _, _, rfl, HE.out, Nat.le_refl _, fun e => (by cases e), by have := HRS.out; rw [QIT.out] at this; exact this⟩
        | true =>
          have htk := rr_yes R s st2 w5.drew 45 (by decide) (by decide) hS6'.rd hb45
          have hitv := item_val (s := s) (st := st2.adv)
          obtain ⟨hi, hhi⟩ : ∃ hi : Nat, (hi : Int) = (itemS s st2.adv).1 := ⟨(itemS s st2.adv).1.toNat, Int.toNat_of_nonneg hitv.1⟩
          have hhi2 : hi < 256 := by omega
          obtain ⟨st4, hst4⟩ : ∃ st4, st4 = (itemS s st2.adv).2 := ⟨_, rfl⟩
          have hIT0 : itemsS s st1 = (((lo : Int), (hi : Int)), if (lo : Int) > (hi : Int) then st4.fail st2.at_ 2 else st4) := by
            unfold itemsS
            rw [← HST2.out, hb45, if_pos rfl, ← HLO.out, ← hhi, ← hst4]
          clear hitv
          go_wp2_with fail
          refine htk.mono ?_
          rintro x w7 ⟨rfl, hr7, hf7⟩
          have hS7 := hS6'.call hr7 hf7
          have hit2 := rr_item R s st2.adv w7 hr7
          rw [← hhi, ← hst4] at hit2
          have hp2 : ((st2.at_ : Nat) : Int) = st2.at_ := rfl
          clear htk hr7 hf7 hS6' hhi hst4
          go_wp2_with fail
          refine hit2.mono ?_
          rintro x w8 ⟨rfl, hr8, hf8⟩
          have hS8 := hS7.call hr8 hf8
          clear hit2 hr8 hf8 hS7
          by_cases hgt : (lo : Int) > (hi : Int)
          · rw [if_pos hgt] at hIT0
            have QIT := Lib.hid hIT0
            have hfl := rr_fail R s st4 w8 (st2.at_ : Int) 2 hS8.rd
            clear hIT0
            go_wp2_with fail
            refine hfl.mono ?_
            rintro x w9 ⟨rfl, hr9, hf9⟩
            have hSN := hS8.call hr9 hf9
            clear hfl hr9 hf9 hS8
            go_wp2_with fail
            go_loopg [9] 257 (fun gg s9 wi => ∃ k : Nat, lo ≤ k ∧ k ≤ 256 ∧ (k ≤ lo ∨ k ≤ hi + 1) ∧ 256 - k + 1 ≤ gg ∧ s9 = .int .i64 k ∧ SetR w wi R s w2.heap.size (st4.fail (st2.at_ : Int) 2) (fun q => f q || decide (lo ≤ q ∧ q < k)))
            case atStart => exact ⟨lo, Nat.le_refl _, by omega, .inl (Nat.le_refl _), by omega, rfl, hSN.congr fun q _ => by rw [decide_eq_false (by omega), Bool.or_false]⟩
            case round =>
              obtain ⟨k, k1, k2, k3, k4, rfl, hK⟩ := hrel
              by_cases hkh : k ≤ hi
              · exfalso; omega
              · have hkz : ¬ (k : Int) ≤ (hi : Int) := by omega
                have hE := hK.congr (g := fun q => f q || inR (lo : Int) (hi : Int) q) (fun q _ => by unfold inR; cases f q <;> simp only [Bool.true_or, Bool.false_or] <;> (rw [Bool.eq_iff_iff]; simp; omega))
                have HE := Lib.hid hE
                clear hE hK
                go_wp2
                go_roundg (measS s (st4.fail (st2.at_ : Int) 2) + 1)
                case measure => have := HME.out; rw [QIT.out] at this; dsimp only at this; omega
                case rel => exact ⟨false, _, _, rfl, HE.out, Nat.le_refl _, fun e => (by cases e), by have := HRS.out; rw [QIT.out] at this; exact this⟩
          · rw [if_neg hgt] at hIT0
            have QIT := Lib.hid hIT0
            have hSN := hS8
            clear hIT0 hS8
            go_wp2_with fail
            go_loopg [9] 257 (fun gg s9 wi => ∃ k : Nat, lo ≤ k ∧ k ≤ 256 ∧ (k ≤ lo ∨ k ≤ hi + 1) ∧ 256 - k + 1 ≤ gg ∧ s9 = .int .i64 k ∧ SetR w wi R s w2.heap.size st4 (fun q => f q || decide (lo ≤ q ∧ q < k)))
            case atStart => exact ⟨lo, Nat.le_refl _, by omega, .inl (Nat.le_refl _), by omega, rfl, hSN.congr fun q _ => by rw [decide_eq_false (by omega), Bool.or_false]⟩
            case round =>
              obtain ⟨k, k1, k2, k3, k4, rfl, hK⟩ := hrel
              by_cases hkh : k ≤ hi
              · have hkz : (k : Int) ≤ (hi : Int) := by omega
                have hk256 : k < 256 := by omega
                have f1 := hK.has.frozen k
                have cc := hK.has.cell hk256
                have hP := (hK.put hk256).congr (g := fun q => f q || decide (lo ≤ q ∧ q < k + 1)) (fun q _ => by cases f q <;> simp only [Bool.true_or, Bool.false_or] <;> (rw [Bool.eq_iff_iff]; simp; omega))
                have HPP := Lib.hid hP
                clear hP hK
                go_wp2
                go_roundg (256 - k)
                case measure => omega
                case rel => exact ⟨k + 1, by omega, by omega, .inr (by omega), by omega, by go_num, HPP.out⟩
              · have hkz : ¬ (k : Int) ≤ (hi : Int) := by omega
                have hE := hK.congr (g := fun q => f q || inR (lo : Int) (hi : Int) q) (fun q _ => by unfold inR; cases f q <;> simp only [Bool.true_or, Bool.false_or] <;> (rw [Bool.eq_iff_iff]; simp; omega))
                have HE := Lib.hid hE
                clear hE hK
                go_wp2
                go_roundg (measS s st4 + 1)
                case measure => have := HME.out; rw [QIT.out] at this; dsimp only at this; omega
                case rel => exact ⟨false, _, _, rfl, HE.out, Nat.le_refl _, fun e => (by cases e), by have := HRS.out; rw [QIT.out] at this; exact this⟩
      | false =>
        cases hb93 : isB s st1 93 with
        | true =>
          have htk := rr_yes R s st1 wr 93 (by decide) (by decide) hS.rd hb93
          have HXS : Hid (setS s st = ((fun q => if nb = true then !f q else f q), st1.adv)) := Lib.hid (by
            rw [HSET.out, rest_shut hRS.out he1 hb93]
            congr 1
            cases nb <;> rfl)
          clear hRS
          go_wp2_with fail
          refine htk.mono ?_
          rintro x w5 ⟨rfl, hr5, hf5⟩
          have hX := hS.call hr5 hf5
          clear htk hr5 hf5 hS c0 c1 c2 c3
          go_wp2_with fail
          go_loopg [10] 257 (fun gg s10 wi => ∃ k : Nat, k ≤ 256 ∧ 256 - k + 1 ≤ gg ∧ s10 = .int .i64 k ∧ SetR w wi R s w2.heap.size st1.adv (fun q => if q < k then !f q else f q) ∧ (nb = false → k = 0))
          case atStart => exact ⟨0, by omega, by omega, rfl, hX.congr fun q _ => by rw [if_neg (by omega)], fun _ => rfl⟩
          case round =>
            obtain ⟨k, k1, k2, rfl, hK, k3⟩ := hrel
            clear hX
            by_cases hgo : k < 256 ∧ nb = true
            · obtain ⟨hk256, hnb⟩ := hgo
              have hkz : (k : Int) < 256 := by omega
              have f1 := hK.has.frozen k
              have cc := hK.has.cell hk256
              rw [if_neg (by omega)] at cc
              have hP := hK.flip hk256
              rw [if_neg (Nat.lt_irrefl k)] at hP
              have hP2 := hP.congr (g := fun q => if q < k + 1 then !f q else f q) (fun q _ => by
                by_cases e : q = k
                · subst e; simp
                · by_cases e2 : q < k
                  · rw [if_neg e, if_pos e2, if_pos (by omega)]
                  · rw [if_neg e, if_neg e2, if_neg (by omega)])
              have HPP := Lib.hid hP2
              clear hP hP2 hK
              subst hnb
              go_wp2
              go_roundg (256 - k)
              case measure => omega
              case rel => exact ⟨k + 1, by omega, by omega, by go_num, HPP.out, fun e => (by cases e)⟩
            · obtain ⟨F, hFe⟩ : ∃ F : Nat → Bool, F = fun q => if nb = true then !f q else f q := ⟨_, rfl⟩
              have hfin : ∀ q, q < 256 → (if q < k then !f q else f q) = F q := fun q hq => by
                rw [hFe]
                dsimp only
                cases nb with
                | false => rw [k3 rfl, if_neg (by omega), if_neg (by decide)]
                | true =>
                  have : k = 256 := by
                    by_cases h : k < 256
                    · exact absurd ⟨h, rfl⟩ hgo
                    · omega
                  rw [if_pos (by omega), if_pos rfl]
              have hF := hK.congr hfin
              obtain ⟨cs, hcs1, hcs2, hld⟩ := load_row _ _ _ hF.has
              have hmd := made_v cs F hcs1 hcs2 wr
              have HF := Lib.hid hF
              have HFE := Lib.hid hFe
              have hkn : (decide ((k : Int) < 256) && nb) = false := by
                cases nb with
                | false => simp
                | true =>
                  have : ¬ (k : Int) < 256 := fun h => hgo ⟨by omega, rfl⟩
                  simp; omega
              clear hfin hF hK hgo k3 hFe
              cases hlt : decide ((k : Int) < 256) with
              | true =>
                rw [hlt] at hkn
                have hnb : nb = false := by simpa using hkn
                have hkz : (k : Int) < 256 := by simpa using hlt
                have HN := Lib.hid hnb
                clear hkn hlt
                go_wp2_with fail
                refine hmd.mono ?_
                rintro x w30 ⟨rfl, hb30⟩
                have hSF := HF.out.call (HF.out.rd.below hb30) (Fr.of_below hb30 (Nat.le_refl _))
                obtain ⟨r0, r1, r2, r3, g0, g1, g2, g3⟩ := row4 hSF.res
                clear hmd hld
                go_wp2_with fail
                refine post_row4 (t := 2) (T := 25) (b := w.heap.size) (f := fun j => .int .u64 (clsOf F j)) Try.results65 rfl (row4_set hSF.res (fun j => .int .u64 (clsOf F j))) Try.underlying25 (by kernel_rfl) rfl ?_
                have hsn := hSF.ne
                have hsl := hSF.lt
                refine ⟨?_, ?_, ?_⟩
                · rw [HXS.out, ← HFE.out]
                · rw [HXS.out, ← HFE.out]
                  exact hSF.rd.keep (by rw [Below.heap_setCell _ _ _ _ (by show R ≠ w.heap.size; omega), Below.heap_setCell _ _ _ _ (by show R ≠ w.heap.size; omega), Below.heap_setCell _ _ _ _ (by show R ≠ w.heap.size; omega), Below.heap_setCell _ _ _ _ (by show R ≠ w.heap.size; omega)])
                · exact (((hSF.fr.setCell (p := ⟨w.heap.size, 0, none⟩) (.inl (Nat.le_refl _)) _).setCell (p := ⟨w.heap.size, 1, none⟩) (.inl (Nat.le_refl _)) _).setCell (p := ⟨w.heap.size, 2, none⟩) (.inl (Nat.le_refl _)) _).setCell (p := ⟨w.heap.size, 3, none⟩) (.inl (Nat.le_refl _)) _
              | false =>
                have hkz : ¬ (k : Int) < 256 := by simpa using hlt
                have HN : True := trivial
                clear hkn hlt
                go_wp2_with fail
                refine hmd.mono ?_
                rintro x w30 ⟨rfl, hb30⟩
                have hSF := HF.out.call (HF.out.rd.below hb30) (Fr.of_below hb30 (Nat.le_refl _))
                obtain ⟨r0, r1, r2, r3, g0, g1, g2, g3⟩ := row4 hSF.res
                clear hmd hld
                go_wp2_with fail
                refine post_row4 (t := 2) (T := 25) (b := w.heap.size) (f := fun j => .int .u64 (clsOf F j)) Try.results65 rfl (row4_set hSF.res (fun j => .int .u64 (clsOf F j))) Try.underlying25 (by kernel_rfl) rfl ?_
                have hsn := hSF.ne
                have hsl := hSF.lt
                refine ⟨?_, ?_, ?_⟩
                · rw [HXS.out, ← HFE.out]
                · rw [HXS.out, ← HFE.out]
                  exact hSF.rd.keep (by rw [Below.heap_setCell _ _ _ _ (by show R ≠ w.heap.size; omega), Below.heap_setCell _ _ _ _ (by show R ≠ w.heap.size; omega), Below.heap_setCell _ _ _ _ (by show R ≠ w.heap.size; omega), Below.heap_setCell _ _ _ _ (by show R ≠ w.heap.size; omega)])
                · exact (((hSF.fr.setCell (p := ⟨w.heap.size, 0, none⟩) (.inl (Nat.le_refl _)) _).setCell (p := ⟨w.heap.size, 1, none⟩) (.inl (Nat.le_refl _)) _).setCell (p := ⟨w.heap.size, 2, none⟩) (.inl (Nat.le_refl _)) _).setCell (p := ⟨w.heap.size, 3, none⟩) (.inl (Nat.le_refl _)) _
        | false =>
          have htk := rr_no R s st1 wr 93 (by decide) (by decide) hS.rd hb93
          have hRS2 := rest_next hRS.out hat1 he1 hb93
          have hME2 := meas_next hat1 he1
          clear hRS
          go_wp2_with fail
          refine htk.mono ?_
          rintro x w4 ⟨rfl, hr4, hf4⟩
          have hS4 := hS.call hr4 hf4
          clear htk hr4 hf4 hS c0 c1 c2 c3
          have hS := hS4
          clear hS4
          have hitv := item_val (s := s) (st := st1)
          obtain ⟨lo, hlo⟩ : ∃ lo : Nat, (lo : Int) = (itemS s st1).1 := ⟨(itemS s st1).1.toNat, Int.toNat_of_nonneg hitv.1⟩
          have hlo2 : lo < 256 := by omega
          obtain ⟨st2, hst2⟩ : ∃ st2, st2 = (itemS s st1).2 := ⟨_, rfl⟩
          have hit := rr_item R s st1 w4 hS.rd
          rw [← hlo, ← hst2] at hit
          have HLO := Lib.hid hlo
          have HST2 := Lib.hid hst2
          have HRS := Lib.hid hRS2
          have HME := Lib.hid hME2
          clear hitv hRS2 hME2 hbe he1 hlo hst2
          go_wp2_with fail
          refine hit.mono ?_
          rintro x w5 ⟨rfl, hr5, hf5⟩
          have hS5 := hS.call hr5 hf5
          obtain ⟨c0, c1, c2, c3⟩ := hr5.cells
          clear hit hS hr5 hf5
          go_wp2_with fail
          go_region
          have hS6 := hS5.drewN 1
          have hS6' : SetR w w5.drew R s w2.heap.size st2 f := hS6
          clear c0 c1 c2 c3 hS5 hS6
          cases hb45 : isB s st2 45 with
          | false =>
            have htk := rr_no R s st2 w5.drew 45 (by decide) (by decide) hS6'.rd hb45
            have QIT : Hid (itemsS s st1 = (((lo : Int), (lo : Int)), st2)) := Lib.hid (by rw [items_one (by rw [← HST2.out]; exact hb45), ← HLO.out, ← HST2.out])
            go_wp2_with fail
            refine htk.mono ?_
            rintro x w7 ⟨rfl, hr7, hf7⟩
            have hSN := hS6'.call hr7 hf7
            clear htk hr7 hf7 hS6'
            go_wp2_with fail
            go_loopg [9] 257 (fun gg s9 wi => ∃ k : Nat, lo ≤ k ∧ k ≤ 256 ∧ (k ≤ lo ∨ k ≤ lo + 1) ∧ 256 - k + 1 ≤ gg ∧ s9 = .int .i64 k ∧ SetR w wi R s w2.heap.size st2 (fun q => f q || decide (lo ≤ q ∧ q < k)))
            case atStart => exact ⟨lo, Nat.le_refl _, by omega, .inl (Nat.le_refl _), by omega, rfl, hSN.congr fun q _ => by rw [decide_eq_false (by omega), Bool.or_false]⟩
            case round =>
              obtain ⟨k, k1, k2, k3, k4, rfl, hK⟩ := hrel
              by_cases hkh : k ≤ lo
              · have hkz : (k : Int) ≤ (lo : Int) := by omega
                have hk256 : k < 256 := by omega
                have f1 := hK.has.frozen k
                have cc := hK.has.cell hk256
                have hP := (hK.put hk256).congr (g := fun q => f q || decide (lo ≤ q ∧ q < k + 1)) (fun q _ => by cases f q <;> simp only [Bool.true_or, Bool.false_or] <;> (rw [Bool.eq_iff_iff]; simp; omega))
                have HPP := Lib.hid hP
                clear hP hK
                go_wp2
                go_roundg (256 - k)
                case measure => omega
                case rel => exact ⟨k + 1, by omega, by omega, .inr (by omega), by omega, by go_num, HPP.out⟩
              · have hkz : ¬ (k : Int) ≤ (lo : Int) := by omega
                have hE := hK.congr (g := fun q => f q || inR (lo : Int) (lo : Int) q) (fun q _ => by unfold inR; cases f q <;> simp only [Bool.true_or, Bool.false_or] <;> (rw [Bool.eq_iff_iff]; simp; omega))
                have HE := Lib.hid hE
                clear hE hK
                go_wp2
                go_roundg (measS s st2 + 1)
                case measure => have := HME.out; rw [QIT.out] at this; dsimp only at this; omega
                case rel => exact ⟨false, _, _, rfl, HE.out, Nat.le_refl _, fun e => (by cases e), by have := HRS.out; rw [QIT.out] at this; exact this⟩
          | true =>
            have htk := rr_yes R s st2 w5.drew 45 (by decide) (by decide) hS6'.rd hb45
            have hitv := item_val (s := s) (st := st2.adv)
            obtain ⟨hi, hhi⟩ : ∃ hi : Nat, (hi : Int) = (itemS s st2.adv).1 := ⟨(itemS s st2.adv).1.toNat, Int.toNat_of_nonneg hitv.1⟩
            have hhi2 : hi < 256 := by omega
            obtain ⟨st4, hst4⟩ : ∃ st4, st4 = (itemS s st2.adv).2 := ⟨_, rfl⟩
            have hIT0 : itemsS s st1 = (((lo : Int), (hi : Int)), if (lo : Int) > (hi : Int) then st4.fail st2.at_ 2 else st4) := by
              unfold itemsS
              rw [← HST2.out, hb45, if_pos rfl, ← HLO.out, ← hhi, ← hst4]
            clear hitv
            go_wp2_with fail
            refine htk.mono ?_
            rintro x w7 ⟨rfl, hr7, hf7⟩
            have hS7 := hS6'.call hr7 hf7
            have hit2 := rr_item R s st2.adv w7 hr7
            rw [← hhi, ← hst4] at hit2
            have hp2 : ((st2.at_ : Nat) : Int) = st2.at_ := rfl
            clear htk hr7 hf7 hS6' hhi hst4
            go_wp2_with fail
            refine hit2.mono ?_
            rintro x w8 ⟨rfl, hr8, hf8⟩
            have hS8 := hS7.call hr8 hf8
            clear hit2 hr8 hf8 hS7
            by_cases hgt : (lo : Int) > (hi : Int)
            · rw [if_pos hgt] at hIT0
              have QIT := Lib.hid hIT0
              have hfl := rr_fail R s st4 w8 (st2.at_ : Int) 2 hS8.rd
              clear hIT0
              go_wp2_with fail
              refine hfl.mono ?_
              rintro x w9 ⟨rfl, hr9, hf9⟩
              have hSN := hS8.call hr9 hf9
              clear hfl hr9 hf9 hS8
              go_wp2_with fail
              go_loopg [9] 257 (fun gg s9 wi => ∃ k : Nat, lo ≤ k ∧ k ≤ 256 ∧ (k ≤ lo ∨ k ≤ hi + 1) ∧ 256 - k + 1 ≤ gg ∧ s9 = .int .i64 k ∧ SetR w wi R s w2.heap.size (st4.fail (st2.at_ : Int) 2) (fun q => f q || decide (lo ≤ q ∧ q < k)))
              case atStart => exact ⟨lo, Nat.le_refl _, by omega, .inl (Nat.le_refl _), by omega, rfl, hSN.congr fun q _ => by rw [decide_eq_false (by omega), Bool.or_false]⟩
              case round =>
                obtain ⟨k, k1, k2, k3, k4, rfl, hK⟩ := hrel
                by_cases hkh : k ≤ hi
                · exfalso; omega
                · have hkz : ¬ (k : Int) ≤ (hi : Int) := by omega
                  have hE := hK.congr (g := fun q => f q || inR (lo : Int) (hi : Int) q) (fun q _ => by unfold inR; cases f q <;> simp only [Bool.true_or, Bool.false_or] <;> (rw [Bool.eq_iff_iff]; simp; omega))
                  have HE := Lib.hid hE
                  clear hE hK
                  go_wp2
                  go_roundg (measS s (st4.fail (st2.at_ : Int) 2) + 1)
                  case measure => have := HME.out; rw [QIT.out] at this; dsimp only at this; omega
                  case rel => exact ⟨false, _, _, rfl, HE.out, Nat.le_refl _, fun e => (by cases e), by have := HRS.out; rw [QIT.out] at this; exact this⟩
            · rw [if_neg hgt] at hIT0
              have QIT := Lib.hid hIT0
              have hSN := hS8
              clear hIT0 hS8
              go_wp2_with fail
              go_loopg [9] 257 (fun gg s9 wi => ∃ k : Nat, lo ≤ k ∧ k ≤ 256 ∧ (k ≤ lo ∨ k ≤ hi + 1) ∧ 256 - k + 1 ≤ gg ∧ s9 = .int .i64 k ∧ SetR w wi R s w2.heap.size st4 (fun q => f q || decide (lo ≤ q ∧ q < k)))
              case atStart => exact ⟨lo, Nat.le_refl _, by omega, .inl (Nat.le_refl _), by omega, rfl, hSN.congr fun q _ => by rw [decide_eq_false (by omega), Bool.or_false]⟩
              case round =>
                obtain ⟨k, k1, k2, k3, k4, rfl, hK⟩ := hrel
                by_cases hkh : k ≤ hi
                · have hkz : (k : Int) ≤ (hi : Int) := by omega
                  have hk256 : k < 256 := by omega
                  have f1 := hK.has.frozen k
                  have cc := hK.has.cell hk256
                  have hP := (hK.put hk256).congr (g := fun q => f q || decide (lo ≤ q ∧ q < k + 1)) (fun q _ => by cases f q <;> simp only [Bool.true_or, Bool.false_or] <;> (rw [Bool.eq_iff_iff]; simp; omega))
                  have HPP := Lib.hid hP
                  clear hP hK
                  go_wp2
                  go_roundg (256 - k)
                  case measure => omega
                  case rel => exact ⟨k + 1, by omega, by omega, .inr (by omega), by omega, by go_num, HPP.out⟩
                · have hkz : ¬ (k : Int) ≤ (hi : Int) := by omega
                  have hE := hK.congr (g := fun q => f q || inR (lo : Int) (hi : Int) q) (fun q _ => by unfold inR; cases f q <;> simp only [Bool.true_or, Bool.false_or] <;> (rw [Bool.eq_iff_iff]; simp; omega))
                  have HE := Lib.hid hE
                  clear hE hK
                  go_wp2
                  go_roundg (measS s st4 + 1)
                  case measure => have := HME.out; rw [QIT.out] at this; dsimp only at this; omega
                  case rel => exact ⟨false, _, _, rfl, HE.out, Nat.le_refl _, fun e => (by cases e), by have := HRS.out; rw [QIT.out] at this; exact this⟩
    · have hb : b = false := by
        cases b with
        | false => rfl
        | true => exact absurd (hbe rfl) he1
      subst hb
      have hez : (st1.e == 0) = false := by simpa using he1
      have HXS : Hid (setS s st = ((fun q => if nb = true then !f q else f q), st1)) := Lib.hid (by
        rw [HSET.out, rest_err hRS.out he1]
        congr 1
        cases nb <;> rfl)
      have hX := hS
      clear hRS hS
      go_wp2_with fail
      go_loopg [10] 257 (fun gg s10 wi => ∃ k : Nat, k ≤ 256 ∧ 256 - k + 1 ≤ gg ∧ s10 = .int .i64 k ∧ SetR w wi R s w2.heap.size st1 (fun q => if q < k then !f q else f q) ∧ (nb = false → k = 0))
      case atStart => exact ⟨0, by omega, by omega, rfl, hX.congr fun q _ => by rw [if_neg (by omega)], fun _ => rfl⟩
      case round =>
        obtain ⟨k, k1, k2, rfl, hK, k3⟩ := hrel
        clear hX
        by_cases hgo : k < 256 ∧ nb = true
        · obtain ⟨hk256, hnb⟩ := hgo
          have hkz : (k : Int) < 256 := by omega
          have f1 := hK.has.frozen k
          have cc := hK.has.cell hk256
          rw [if_neg (by omega)] at cc
          have hP := hK.flip hk256
          rw [if_neg (Nat.lt_irrefl k)] at hP
          have hP2 := hP.congr (g := fun q => if q < k + 1 then !f q else f q) (fun q _ => by
            by_cases e : q = k
            · subst e; simp
            · by_cases e2 : q < k
              · rw [if_neg e, if_pos e2, if_pos (by omega)]
              · rw [if_neg e, if_neg e2, if_neg (by omega)])
          have HPP := Lib.hid hP2
          clear hP hP2 hK
          subst hnb
          go_wp2
          go_roundg (256 - k)
          case measure => omega
          case rel => exact ⟨k + 1, by omega, by omega, by go_num, HPP.out, fun e => (by cases e)⟩
        · obtain ⟨F, hFe⟩ : ∃ F : Nat → Bool, F = fun q => if nb = true then !f q else f q := ⟨_, rfl⟩
          have hfin : ∀ q, q < 256 → (if q < k then !f q else f q) = F q := fun q hq => by
            rw [hFe]
            dsimp only
            cases nb with
            | false => rw [k3 rfl, if_neg (by omega), if_neg (by decide)]
            | true =>
              have : k = 256 := by
                by_cases h : k < 256
                · exact absurd ⟨h, rfl⟩ hgo
                · omega
              rw [if_pos (by omega), if_pos rfl]
          have hF := hK.congr hfin
          obtain ⟨cs, hcs1, hcs2, hld⟩ := load_row _ _ _ hF.has
          have hmd := made_v cs F hcs1 hcs2 wr
          have HF := Lib.hid hF
          have HFE := Lib.hid hFe
          have hkn : (decide ((k : Int) < 256) && nb) = false := by
            cases nb with
            | false => simp
            | true =>
              have : ¬ (k : Int) < 256 := fun h => hgo ⟨by omega, rfl⟩
              simp; omega
          clear hfin hF hK hgo k3 hFe
          cases hlt : decide ((k : Int) < 256) with
          | true =>
            rw [hlt] at hkn
            have hnb : nb = false := by simpa using hkn
            have hkz : (k : Int) < 256 := by simpa using hlt
            have HN := Lib.hid hnb
            clear hkn hlt
            go_wp2_with fail
            refine hmd.mono ?_
            rintro x w30 ⟨rfl, hb30⟩
            have hSF := HF.out.call (HF.out.rd.below hb30) (Fr.of_below hb30 (Nat.le_refl _))
            obtain ⟨r0, r1, r2, r3, g0, g1, g2, g3⟩ := row4 hSF.res
            clear hmd hld
            go_wp2_with fail
            refine post_row4 (t := 2) (T := 25) (b := w.heap.size) (f := fun j => .int .u64 (clsOf F j)) Try.results65 rfl (row4_set hSF.res (fun j => .int .u64 (clsOf F j))) Try.underlying25 (by kernel_rfl) rfl ?_
            have hsn := hSF.ne
            have hsl := hSF.lt
            refine ⟨?_, ?_, ?_⟩
            · rw [HXS.out, ← HFE.out]
            · rw [HXS.out, ← HFE.out]
              exact hSF.rd.keep (by rw [Below.heap_setCell _ _ _ _ (by show R ≠ w.heap.size; omega), Below.heap_setCell _ _ _ _ (by show R ≠ w.heap.size; omega), Below.heap_setCell _ _ _ _ (by show R ≠ w.heap.size; omega), Below.heap_setCell _ _ _ _ (by show R ≠ w.heap.size; omega)])
            · exact (((hSF.fr.setCell (p := ⟨w.heap.size, 0, none⟩) (.inl (Nat.le_refl _)) _).setCell (p := ⟨w.heap.size, 1, none⟩) (.inl (Nat.le_refl _)) _).setCell (p := ⟨w.heap.size, 2, none⟩) (.inl (Nat.le_refl _)) _).setCell (p := ⟨w.heap.size, 3, none⟩) (.inl (Nat.le_refl _)) _
          | false =>
            have hkz : ¬ (k : Int) < 256 := by simpa using hlt
            have HN : True := trivial
            clear hkn hlt
            go_wp2_with fail
            refine hmd.mono ?_
            rintro x w30 ⟨rfl, hb30⟩
            have hSF := HF.out.call (HF.out.rd.below hb30) (Fr.of_below hb30 (Nat.le_refl _))
            obtain ⟨r0, r1, r2, r3, g0, g1, g2, g3⟩ := row4 hSF.res
            clear hmd hld
            go_wp2_with fail
            refine post_row4 (t := 2) (T := 25) (b := w.heap.size) (f := fun j => .int .u64 (clsOf F j)) Try.results65 rfl (row4_set hSF.res (fun j => .int .u64 (clsOf F j))) Try.underlying25 (by kernel_rfl) rfl ?_
            have hsn := hSF.ne
            have hsl := hSF.lt
            refine ⟨?_, ?_, ?_⟩
            · rw [HXS.out, ← HFE.out]
            · rw [HXS.out, ← HFE.out]
              exact hSF.rd.keep (by rw [Below.heap_setCell _ _ _ _ (by show R ≠ w.heap.size; omega), Below.heap_setCell _ _ _ _ (by show R ≠ w.heap.size; omega), Below.heap_setCell _ _ _ _ (by show R ≠ w.heap.size; omega), Below.heap_setCell _ _ _ _ (by show R ≠ w.heap.size; omega)])
            · exact (((hSF.fr.setCell (p := ⟨w.heap.size, 0, none⟩) (.inl (Nat.le_refl _)) _).setCell (p := ⟨w.heap.size, 1, none⟩) (.inl (Nat.le_refl _)) _).setCell (p := ⟨w.heap.size, 2, none⟩) (.inl (Nat.le_refl _)) _).setCell (p := ⟨w.heap.size, 3, none⟩) (.inl (Nat.le_refl _)) _
end Go.Proofs.Ytmkcbbamfkafmaa.P
/- The document's reader: an atom, walked. -/
namespace Go.Proofs.Ytmkcbbamfkafmaa.P
open Go.RowKit Go.Proofs.Ytmkcbbamfkafmaa Go.Proofs.YtmkcbbamfkafmaaW.PrintWords Go.Proofs.YtmkcbbamfkafmaaW.PrintLast Go.Proofs.YtmkcbbamfkafmaaW.PrintMore
set_option linter.unusedVariables false
set_option linter.unusedSimpArgs false
attribute [local go_sem ↓] loadS
/-- A node whose parts lie in blocks that the call has made. -/
def FN (w w' : World) (t : T) (A : Option Addr) (c : Nat) : Prop := t.f2.length ≤ c ∧ Kd.F k28 w' (fun k => w.heap.size ≤ k) A t.f2.length t.f2
theorem FN.leaf (w w' : World) (t : T) (h : t.f2 = []) : FN w w' t none 0 := by
  obtain ⟨a, b, ps, lo, hi⟩ := t
  dsimp only at h
  subst h
  exact ⟨Nat.le_refl _, Kd.F_nil _ _ _⟩
theorem FN.mv {w w1 w' w2 : World} {t : T} {A : Option Addr} {c : Nat} (h : FN w1 w' t A c) (h1 : w.heap.size ≤ w1.heap.size) (h2 : ∀ k, w1.heap.size ≤ k → k < w'.heap.size → w2.heap[k]? = w'.heap[k]?) : FN w w2 t A c :=
  ⟨h.1, Kd.F_mono (Kd.F_step h.2 fun k hk hl => h2 k hk hl) fun k hk => Nat.le_trans h1 hk⟩
theorem FN.now {w w' : World} {t : T} {A : Option Addr} {c : Nat} (h : FN w w' t A c) : Tr w' t A c := ⟨Kd.F_now h.2, h.1⟩
/-- What Alt comes to. -/
def AltC (R : Nat) (s : ByteArray) (st : Sc) (w : World) : Prop := Calls Try.prog 29 #[.pointer (some ⟨R, 0, none⟩)] w fun x w' => ∃ A c, x = .returned (ndV (altF s [] [] st).1 A c) ∧ FN w w' (altF s [] [] st).1 A c ∧ RdR w' R s (altF s [] [] st).2 ∧ Fr w.heap.size R w w'
def AltH (R : Nat) (s : ByteArray) (n : Nat) : Prop := ∀ st w, s.size - st.at_ < n → RdR w R s st → AltC R s st w
/-- An atom, if there is one. -/
def atomV (s : ByteArray) (st : Sc) : (T × Bool) × Sc :=
  if goes s st ∧ gb s st.at_ ≠ 41 ∧ gb s st.at_ ≠ 124 then
    if badC (gb s st.at_) = true then ((zN, false), st.fail st.at_ 2)
    else if gb s st.at_ = 40 then (((altF s [] [] st.adv).1, true), mustS s (altF s [] [] st.adv).2 41)
    else (((atomE s (gb s st.at_) st).1, true), (atomE s (gb s st.at_) st).2)
  else ((zN, false), st)
theorem n_froz {w : World} {g : Nat} {t : TypeId} {c0 c1 c2 c3 c4 c5 c6 c7 : Value} (h : w.heap[g]? = some (.cells #[c0, c1, c2, c3, c4, c5, c6, c7] t (0, 0))) :
    w.frozen? ⟨g, 0, none⟩ = false ∧ w.frozen? ⟨g, 1, none⟩ = false ∧ w.frozen? ⟨g, 2, none⟩ = false ∧ w.frozen? ⟨g, 3, none⟩ = false ∧ w.frozen? ⟨g, 4, none⟩ = false ∧ w.frozen? ⟨g, 5, none⟩ = false ∧ w.frozen? ⟨g, 6, none⟩ = false ∧ w.frozen? ⟨g, 7, none⟩ = false :=
  ⟨blk_frozen h 0, blk_frozen h 1, blk_frozen h 2, blk_frozen h 3, blk_frozen h 4, blk_frozen h 5, blk_frozen h 6, blk_frozen h 7⟩
theorem post_row_one2 {P : Program} {fn : Func} {R : Ending → World → Prop} {a : Act} {w : World} {p u : Tmp} {T t : TypeId} {g : Nat} {cs : Array Value} {fr : Nat × Nat} {d : TypeDesc} {x : Value}
    (hr : fn.results = #[.cell p T, .tmp u]) (hp : a.tmps.getD p undef = .pointer (some ⟨g, 0, none⟩)) (hg : w.heap[g]? = some (.cells cs t fr))
    (hu : P.underlying T = some d) (hd : (match d with | .struct _ | .array _ _ => true | _ => false) = true) (hi : (P.info? T).map (·.size) = some cs.size) (hx : a.tmps.getD u undef = x) (hdf : a.defers = [])
    (hR : R (.returned (.tuple #[.agg cs, x])) w) : bodyPost P fn R .ret a w := by
  refine bodyPost_ret (v := .tuple #[.agg cs, x]) ?_ hdf hR
  have hp' : a.tmps[p]?.getD undef = .pointer (some ⟨g, 0, none⟩) := by simpa using hp
  have hx' : a.tmps[u]?.getD undef = x := by simpa using hx
  simp only [results, hr]
  simp [Sem.run_bind, Result.andThen, hp', hx', asAddr, run_loadVar_row w g t T cs fr d hg hu hd hi]
theorem fr_set8 {B R g : Nat} {a W : World} (h : Fr B R a W) (hg : B ≤ g) (x0 x1 x2 x3 x4 x5 x6 x7 : Value) : Fr B R a ((((((((W.setCell ⟨g, 0, none⟩ x0).setCell ⟨g, 1, none⟩ x1).setCell ⟨g, 2, none⟩ x2).setCell ⟨g, 3, none⟩ x3).setCell ⟨g, 4, none⟩ x4).setCell ⟨g, 5, none⟩ x5).setCell ⟨g, 6, none⟩ x6).setCell ⟨g, 7, none⟩ x7) :=
  (((((((h.setCell (p := ⟨g, 0, none⟩) (.inl hg) _).setCell (p := ⟨g, 1, none⟩) (.inl hg) _).setCell (p := ⟨g, 2, none⟩) (.inl hg) _).setCell (p := ⟨g, 3, none⟩) (.inl hg) _).setCell (p := ⟨g, 4, none⟩) (.inl hg) _).setCell (p := ⟨g, 5, none⟩) (.inl hg) _).setCell (p := ⟨g, 6, none⟩) (.inl hg) _).setCell (p := ⟨g, 7, none⟩) (.inl hg) _
theorem rd_set8 {W : World} {R g : Nat} {s : ByteArray} {st : Sc} (h : RdR W R s st) (hg : R ≠ g) (x0 x1 x2 x3 x4 x5 x6 x7 : Value) : RdR ((((((((W.setCell ⟨g, 0, none⟩ x0).setCell ⟨g, 1, none⟩ x1).setCell ⟨g, 2, none⟩ x2).setCell ⟨g, 3, none⟩ x3).setCell ⟨g, 4, none⟩ x4).setCell ⟨g, 5, none⟩ x5).setCell ⟨g, 6, none⟩ x6).setCell ⟨g, 7, none⟩ x7) R s st := h.keep ((far_resN W g x0 x1 x2 x3 x4 x5 x6 x7).2 R hg)
theorem put_v (c : Int) (h0 : 0 ≤ c) (h1 : c < 256) (w : World) : Calls Try.prog 68 #[.agg #[.int .u64 0, .int .u64 0, .int .u64 0, .int .u64 0], .int .i64 c] w fun e w' => e = .returned (cV (fun q => decide ((q : Int) = c))) ∧ Below w.heap.size w w' :=
  (Go.Proofs.Ytmkcbbamfkafmaa.put_any (fun _ => 0) w64_zero c h0 h1 w).mono fun _ _ h => retC_v (fun x hx b hb => by rw [hx b hb, has_empty, Bool.false_or]) h
/-- A node's zero in the result's variable, since the call began. -/
structure ResN (w W : World) (R : Nat) (s : ByteArray) (st : Sc) : Prop where
  rd : RdR W R s st
  res : W.heap[w.heap.size]? = some (.cells zcs 28)
  fr : Fr w.heap.size R w W
  lt : R < w.heap.size
theorem ResN.call {w W W' : World} {R : Nat} {s : ByteArray} {st st' : Sc} (h : ResN w W R s st) (hr : RdR W' R s st') (hf : Fr W.heap.size R W W') : ResN w W' R s st' :=
  ⟨hr, (hf.block _ (blk_lt h.res) (by have := h.lt; omega)).trans h.res, h.fr.trans (hf.mono h.fr.size), h.lt⟩
theorem ResN.below {w W W' : World} {R : Nat} {s : ByteArray} {st : Sc} (h : ResN w W R s st) (hb : Below W.heap.size W W') : ResN w W' R s st := h.call (h.rd.below hb) (Fr.of_below hb (Nat.le_refl _))
theorem ResN.start {w : World} {R : Nat} {s : ByteArray} {st : Sc} (h : RdR w R s st) : ResN w (w.alloc (.cells zcs 28)) R s st :=
  ⟨h.below ((Below.refl _ w).alloc (Nat.le_refl _) _), heap_alloc_new w _, (Fr.refl _ _ w).alloc (Nat.le_refl _) _, h.lt⟩
end Go.Proofs.Ytmkcbbamfkafmaa.P
/- The document's reader: an atom, walked. -/
namespace Go.Proofs.Ytmkcbbamfkafmaa.P
open Go.RowKit Go.Proofs.Ytmkcbbamfkafmaa Go.Proofs.YtmkcbbamfkafmaaW.PrintWords Go.Proofs.YtmkcbbamfkafmaaW.PrintLast Go.Proofs.YtmkcbbamfkafmaaW.PrintMore
set_option linter.unusedVariables false
set_option linter.unusedSimpArgs false
attribute [local go_sem ↓] loadS
/-- What atom has to come to. -/
def AtomC (R : Nat) (s : ByteArray) (st : Sc) (w : World) : Prop := Calls Try.prog 55 #[.pointer (some ⟨R, 0, none⟩)] w fun x w' =>
  ∃ A c, x = .returned (.tuple #[ndV (atomV s st).1.1 A c, .bool (atomV s st).1.2]) ∧ FN w w' (atomV s st).1.1 A c ∧ RdR w' R s (atomV s st).2 ∧ Fr w.heap.size R w w'
section
variable (R : Nat) (s : ByteArray) (st : Sc) (w : World) (h : RdR w R s st)
include h
set_option maxHeartbeats 4000000 in
theorem atom_none (hg : ¬ goes s st) : AtomC R s st w := by
  have HAV : Hid (atomV s st = ((zN, false), st)) := Lib.hid (by unfold atomV; rw [if_neg (fun x => hg x.1)])
  have hR0 := ResN.start h
  have hnx := rr_next R s st _ hR0.rd
  rw [nextV_no hg] at hnx
  unfold AtomC
  clear h hg
  go_enter Try.func55, Try.ntmps55
  go_wp2_with fail
  refine hnx.mono ?_
  rintro x w2 ⟨rfl, hr2, hf2⟩
  have RS := hR0.call hr2 hf2
  clear hnx hR0 hr2 hf2
  obtain ⟨v0, v1, v2, v3, v4, v5, v6, v7⟩ := n_cells RS.res
  obtain ⟨q0, q1, q2, q3, q4, q5, q6, q7⟩ := n_froz RS.res
  have HRS := Lib.hid RS
  clear RS
  go_wp2_with fail
  refine post_row_one2 (g := w.heap.size) (cs := zcs) (t := 28) (fr := (0, 0)) (x := .bool false) Try.results55 rfl (blk_set8 HRS.out.res) Try.underlying28 (by rfl) (by kernel_rfl) rfl rfl ?_
  have hlt := HRS.out.lt
  rw [HAV.out]
  exact ⟨none, 0, rfl, FN.leaf _ _ _ rfl, rd_set8 HRS.out.rd (by omega) _ _ _ _ _ _ _ _, fr_set8 HRS.out.fr (Nat.le_refl _) _ _ _ _ _ _ _ _⟩
set_option maxHeartbeats 4000000 in
theorem atom_end (hg : goes s st) (hc : gb s st.at_ = 41 ∨ gb s st.at_ = 124) : AtomC R s st w := by
  have HAV : Hid (atomV s st = ((zN, false), st)) := Lib.hid (by unfold atomV; rw [if_neg (fun x => by rcases hc with e | e; exact x.2.1 e; exact x.2.2 e)])
  have hR0 := ResN.start h
  have hnx := rr_next R s st _ hR0.rd
  rw [nextV_go hg] at hnx
  have hr := gb_range s st.at_
  obtain ⟨c, hcc⟩ : ∃ c, c = gb s st.at_ := ⟨_, rfl⟩
  rw [← hcc] at hnx hr hc
  have hin : ∀ W, Calls Try.prog 64 #[.string ⟨#[41, 124]⟩, .int .u8 c] W fun e w' => e = .returned (.bool true) ∧ Below W.heap.size W w' := fun W => by
    obtain ⟨k, hk⟩ := fin_of hr.1 hr.2
    have h1 := in_end0 k
    rw [← hk] at h1
    have h2 : (c == 41 || c == 124) = true := by rcases hc with e | e <;> simp [e]
    rw [h2] at h1
    exact (ostinatoref02_in.calls 17 _ c true W h1).mono fun e w' ⟨a, b⟩ => ⟨a, b.below⟩
  have hw8 : IntKind.u8.wrap c = c := by rw [IntKind.wrap_u8]; omega
  have hneg : ¬ c < 0 := by omega
  unfold AtomC
  clear h hg hcc hr hc
  go_enter Try.func55, Try.ntmps55
  go_wp2_with fail
  refine hnx.mono ?_
  rintro x w2 ⟨rfl, hr2, hf2⟩
  have RS2 := hR0.call hr2 hf2
  clear hnx hR0 hr2 hf2
  go_wp2_with fail
  refine (hin w2).mono ?_
  rintro x w3 ⟨rfl, hb3⟩
  have RS := RS2.below hb3
  clear RS2 hin hb3
  obtain ⟨v0, v1, v2, v3, v4, v5, v6, v7⟩ := n_cells RS.res
  obtain ⟨q0, q1, q2, q3, q4, q5, q6, q7⟩ := n_froz RS.res
  have HRS := Lib.hid RS
  clear RS
  go_wp2_with fail
  refine post_row_one2 (g := w.heap.size) (cs := zcs) (t := 28) (fr := (0, 0)) (x := .bool false) Try.results55 rfl (blk_set8 HRS.out.res) Try.underlying28 (by rfl) (by kernel_rfl) rfl rfl ?_
  have hlt := HRS.out.lt
  rw [HAV.out]
  exact ⟨none, 0, rfl, FN.leaf _ _ _ rfl, rd_set8 HRS.out.rd (by omega) _ _ _ _ _ _ _ _, fr_set8 HRS.out.fr (Nat.le_refl _) _ _ _ _ _ _ _ _⟩
end
/-- There is an atom, or what stands for none: what is known of the byte. -/
structure AtB (s : ByteArray) (c : Int) (bad : Bool) : Prop where
  lo : 0 ≤ c
  hi : c < 256
  i1 : ∀ W, Calls Try.prog 64 #[.string ⟨#[41, 124]⟩, .int .u8 c] W fun e w' => e = .returned (.bool false) ∧ Below W.heap.size W w'
  i2 : ∀ W, Calls Try.prog 64 #[.string ⟨#[93, 125, 42, 43, 63, 123]⟩, .int .u8 c] W fun e w' => e = .returned (.bool bad) ∧ Below W.heap.size W w'
theorem atB (s : ByteArray) (c : Int) (h0 : 0 ≤ c) (h1 : c < 256) (h2 : c ≠ 41) (h3 : c ≠ 124) : AtB s c (badC c) := by
  obtain ⟨k, hk⟩ := fin_of h0 h1
  refine ⟨h0, h1, fun W => ?_, fun W => ?_⟩
  · have e1 := in_end0 k
    rw [← hk] at e1
    have e2 : (c == 41 || c == 124) = false := by simp [h2, h3]
    rw [e2] at e1
    exact (ostinatoref02_in.calls 17 _ c false W e1).mono fun e w' ⟨a, b⟩ => ⟨a, b.below⟩
  · have e1 := in_bad0 k
    rw [← hk] at e1
    exact (ostinatoref02_in.calls 17 _ c (badC c) W e1).mono fun e w' ⟨a, b⟩ => ⟨a, b.below⟩
section
variable (R : Nat) (s : ByteArray) (st : Sc) (w : World) (h : RdR w R s st) (hg : goes s st) (h41 : gb s st.at_ ≠ 41) (h124 : gb s st.at_ ≠ 124)
include h hg h41 h124
set_option maxHeartbeats 4000000 in
theorem atom_bad (hbad : badC (gb s st.at_) = true) : AtomC R s st w := by
  have HAV : Hid (atomV s st = ((zN, false), st.fail st.at_ 2)) := Lib.hid (by unfold atomV; rw [if_pos ⟨hg, h41, h124⟩, if_pos hbad])
  have hR0 := ResN.start h
  have hnx := rr_next R s st _ hR0.rd
  rw [nextV_go hg] at hnx
  have hr := gb_range s st.at_
  have hB := atB s _ hr.1 hr.2 h41 h124
  obtain ⟨c, hcc⟩ : ∃ c, c = gb s st.at_ := ⟨_, rfl⟩
  rw [hbad] at hB
  rw [← hcc] at hnx hB
  have hw8 : IntKind.u8.wrap c = c := by rw [IntKind.wrap_u8]; have := hB.lo; have := hB.hi; omega
  have hneg : ¬ c < 0 := by have := hB.lo; omega
  have i1 := hB.i1
  have i2 := hB.i2
  obtain ⟨pp, hpp⟩ : ∃ pp, pp = st.at_ := ⟨_, rfl⟩
  unfold AtomC
  clear h hg h41 h124 hbad hcc hr hB
  go_enter Try.func55, Try.ntmps55
  go_wp2_with fail
  refine hnx.mono ?_
  rintro x w2 ⟨rfl, hr2, hf2⟩
  have RS2 := hR0.call hr2 hf2
  clear hnx hR0 hr2 hf2
  go_wp2_with fail
  refine (i1 w2).mono ?_
  rintro x w3 ⟨rfl, hb3⟩
  have RS3 := RS2.below hb3
  clear RS2 i1 hb3
  go_wp2_with fail
  refine (i2 w3).mono ?_
  rintro x w4 ⟨rfl, hb4⟩
  have RS4 := RS3.below hb4
  obtain ⟨c0, c1, c2, c3⟩ := RS4.rd.cells
  have hfl := rr_fail R s st w4 (st.at_ : Int) 2 RS4.rd
  clear RS3 i2 hb4 hpp
  go_wp2_with fail
  refine hfl.mono ?_
  rintro x w5 ⟨rfl, hr5, hf5⟩
  have RS := RS4.call hr5 hf5
  clear hfl hr5 hf5 RS4 c0 c1 c2 c3
  obtain ⟨v0, v1, v2, v3, v4, v5, v6, v7⟩ := n_cells RS.res
  obtain ⟨q0, q1, q2, q3, q4, q5, q6, q7⟩ := n_froz RS.res
  have HRS := Lib.hid RS
  clear RS
  go_wp2_with fail
  refine post_row_one2 (g := w.heap.size) (cs := zcs) (t := 28) (fr := (0, 0)) (x := .bool false) Try.results55 rfl (blk_set8 HRS.out.res) Try.underlying28 (by rfl) (by kernel_rfl) rfl rfl ?_
  have hlt := HRS.out.lt
  rw [HAV.out]
  exact ⟨none, 0, rfl, FN.leaf _ _ _ rfl, rd_set8 HRS.out.rd (by omega) _ _ _ _ _ _ _ _, fr_set8 HRS.out.fr (Nat.le_refl _) _ _ _ _ _ _ _ _⟩
end
end Go.Proofs.Ytmkcbbamfkafmaa.P
/- The document's reader: an atom, walked: the leaves. Written by wip/gen_rd8.py. -/
namespace Go.Proofs.Ytmkcbbamfkafmaa.P
open Go.RowKit Go.Proofs.Ytmkcbbamfkafmaa Go.Proofs.YtmkcbbamfkafmaaW.PrintWords Go.Proofs.YtmkcbbamfkafmaaW.PrintLast Go.Proofs.YtmkcbbamfkafmaaW.PrintMore
set_option linter.unusedVariables false
set_option linter.unusedSimpArgs false
attribute [local go_sem ↓] loadS
theorem ResN.adv {w W : World} {R : Nat} {s : ByteArray} {st : Sc} (h : ResN w W R s st) (hp : st.at_ + 1 ≤ s.size) : ResN w (W.setCell ⟨R, 1, none⟩ (.int .i64 ((st.at_ + 1 : Nat) : Int))) R s st.adv :=
  h.call (h.rd.at_ (st.at_ + 1) hp) ((Fr.refl _ _ _).setCell (p := ⟨R, 1, none⟩) (.inr rfl) _)
section
variable (R : Nat) (s : ByteArray) (st : Sc) (w : World) (h : RdR w R s st) (hg : goes s st) (h41 : gb s st.at_ ≠ 41) (h124 : gb s st.at_ ≠ 124) (hbad : badC (gb s st.at_) = false)
include h hg h41 h124 hbad
set_option maxHeartbeats 4000000 in
theorem atom_byte (h40 : gb s st.at_ ≠ 40) (h91 : gb s st.at_ ≠ 91) (h46 : gb s st.at_ ≠ 46) (h92 : gb s st.at_ ≠ 92) : AtomC R s st w := by
  have HAV : Hid (atomV s st = (((atomE s (gb s st.at_) st).1, true), (atomE s (gb s st.at_) st).2)) := Lib.hid (by unfold atomV; rw [if_pos ⟨hg, h41, h124⟩, if_neg (by rw [hbad]; decide), if_neg (by exact h40)])
  have HAE : Hid (atomE s (gb s st.at_) st = (setN (fun q => decide ((q : Int) = gb s st.at_)), st.adv)) := Lib.hid (by unfold atomE; rw [if_neg h91, if_neg h46, if_neg h92])
  obtain ⟨FV, hFV⟩ : ∃ FV : Nat → Bool, FV = fun q : Nat => decide ((q : Int) = gb s st.at_) := ⟨_, rfl⟩
  rw [← hFV] at HAE
  have hR0 := ResN.start h
  have hnx := rr_next R s st _ hR0.rd
  rw [nextV_go hg] at hnx
  have hr := gb_range s st.at_
  have hB := atB s _ hr.1 hr.2 h41 h124
  have HFV := Lib.hid hFV
  rw [hbad] at hB
  have hat := hg.2
  have hsz := h.hsz
  have he0 := hg.1
  obtain ⟨c, hcc⟩ : ∃ c, c = gb s st.at_ := ⟨_, rfl⟩
  rw [← hcc] at hnx hB h40 h91 h46 h92 HFV
  have hw8 : IntKind.u8.wrap c = c := by rw [IntKind.wrap_u8]; have := hB.lo; have := hB.hi; omega
  have hneg : ¬ c < 0 := by have := hB.lo; omega
  have hcr := Lib.hid (And.intro hB.lo hB.hi)
  have i1 := hB.i1
  have i2 := hB.i2
  obtain ⟨a, ha⟩ : ∃ a, a = st.at_ := ⟨_, rfl⟩
  obtain ⟨p, hpp⟩ : ∃ p : Nat, p = a + 1 := ⟨_, rfl⟩
  have hwr : IntKind.i64.wrap ((a : Int) + 1) = (p : Int) := by rw [IntKind.wrap_i64]; omega
  have HPA := Lib.hid (show p = st.at_ + 1 by omega)
  have HPL := Lib.hid (show st.at_ + 1 ≤ s.size by omega)
  have HA := Lib.hid ha
  have HE0 := Lib.hid he0
  unfold AtomC
  clear hFV h hg h41 h124 hbad hcc hr hB hat hsz ha hpp he0
  go_enter Try.func55, Try.ntmps55
  go_wp2_with fail
  refine hnx.mono ?_
  rintro x w2 ⟨rfl, hr2, hf2⟩
  have RS2 := hR0.call hr2 hf2
  clear hnx hR0 hr2 hf2
  go_wp2_with fail
  refine (i1 w2).mono ?_
  rintro x w3 ⟨rfl, hb3⟩
  have RS3 := RS2.below hb3
  clear RS2 i1 hb3
  go_wp2_with fail
  refine (i2 w3).mono ?_
  rintro x w4 ⟨rfl, hb4⟩
  have RS4 := RS3.below hb4
  obtain ⟨c0, c1, c2, c3⟩ := RS4.rd.cells
  have f1 := RS4.rd.froz
  rw [← HA.out] at c1
  have HRA := Lib.hid (HPA.out ▸ RS4.adv HPL.out : ResN w (w4.setCell ⟨R, 1, none⟩ (.int .i64 (p : Int))) R s st.adv)
  clear RS3 i2 hb4 RS4
  have hput := put_v c hcr.out.1 hcr.out.2 (w4.setCell ⟨R, 1, none⟩ (.int .i64 (p : Int)))
  rw [← HFV.out] at hput
  go_wp2_with fail
  refine hput.mono ?_
  rintro x w5 ⟨rfl, hb5⟩
  have RS := HRA.out.below hb5
  clear hput hb5 c0 c1 c2 c3 f1
  obtain ⟨v0, v1, v2, v3, v4, v5, v6, v7⟩ := n_cells RS.res
  obtain ⟨q0, q1, q2, q3, q4, q5, q6, q7⟩ := n_froz RS.res
  have HRS := Lib.hid RS
  clear RS
  go_wp2_with fail
  refine post_row_one2 (g := w.heap.size) (cs := #[.int .i64 1, .int .u64 (clsOf FV 0), .int .u64 (clsOf FV 1), .int .u64 (clsOf FV 2), .int .u64 (clsOf FV 3), .slice none 0 0, .int .i64 0, .int .i64 0]) (t := 28) (fr := (0, 0)) (x := .bool true) Try.results55 rfl (blk_set8 HRS.out.res) Try.underlying28 (by rfl) (by kernel_rfl) rfl rfl ?_
  have hlt := HRS.out.lt
  rw [HAV.out, HAE.out]
  exact ⟨none, 0, rfl, FN.leaf _ _ _ rfl, rd_set8 HRS.out.rd (by omega) _ _ _ _ _ _ _ _, fr_set8 HRS.out.fr (Nat.le_refl _) _ _ _ _ _ _ _ _⟩
set_option maxHeartbeats 4000000 in
theorem atom_esc (h92 : gb s st.at_ = 92) : AtomC R s st w := by
  have HAV : Hid (atomV s st = (((atomE s (gb s st.at_) st).1, true), (atomE s (gb s st.at_) st).2)) := Lib.hid (by unfold atomV; rw [if_pos ⟨hg, h41, h124⟩, if_neg (by rw [hbad]; decide), if_neg (by rw [h92]; decide)])
  have HAE : Hid (atomE s (gb s st.at_) st = (setN (fun q => decide ((q : Int) = (escapeS s st.adv).1)), (escapeS s st.adv).2)) := Lib.hid (by unfold atomE; rw [if_neg (by rw [h92]; decide), if_neg (by rw [h92]; decide), if_pos h92])
  obtain ⟨E, hE⟩ : ∃ E, E = escapeS s st.adv := ⟨_, rfl⟩
  have hEr := @escape_val s st.adv
  rw [← hE] at HAE hEr
  obtain ⟨k, ste⟩ := E
  have hEC := rr_escape R s st.adv
  rw [← hE] at hEC
  dsimp only at HAE hEr hEC
  have HEC := Lib.hid hEC
  have HER := Lib.hid hEr
  obtain ⟨FV, hFV⟩ : ∃ FV : Nat → Bool, FV = fun q : Nat => decide ((q : Int) = k) := ⟨_, rfl⟩
  rw [← hFV] at HAE
  have HFV := Lib.hid hFV
  have hR0 := ResN.start h
  have hnx := rr_next R s st _ hR0.rd
  rw [nextV_go hg] at hnx
  have hr := gb_range s st.at_
  have hB := atB s _ hr.1 hr.2 h41 h124
  skip
  rw [hbad] at hB
  have hat := hg.2
  have hsz := h.hsz
  have he0 := hg.1
  rw [h92] at hnx hB
  have hw8 : IntKind.u8.wrap 92 = 92 := by rw [IntKind.wrap_u8]; rfl
  clear h92
  have hcr := Lib.hid (And.intro hB.lo hB.hi)
  have i1 := hB.i1
  have i2 := hB.i2
  obtain ⟨a, ha⟩ : ∃ a, a = st.at_ := ⟨_, rfl⟩
  obtain ⟨p, hpp⟩ : ∃ p : Nat, p = a + 1 := ⟨_, rfl⟩
  have hwr : IntKind.i64.wrap ((a : Int) + 1) = (p : Int) := by rw [IntKind.wrap_i64]; omega
  have HPA := Lib.hid (show p = st.at_ + 1 by omega)
  have HPL := Lib.hid (show st.at_ + 1 ≤ s.size by omega)
  have HA := Lib.hid ha
  have HE0 := Lib.hid he0
  unfold AtomC
  clear hFV hE hEC hEr h hg h41 h124 hbad hr hB hat hsz ha hpp he0
  go_enter Try.func55, Try.ntmps55
  go_wp2_with fail
  refine hnx.mono ?_
  rintro x w2 ⟨rfl, hr2, hf2⟩
  have RS2 := hR0.call hr2 hf2
  clear hnx hR0 hr2 hf2
  go_wp2_with fail
  refine (i1 w2).mono ?_
  rintro x w3 ⟨rfl, hb3⟩
  have RS3 := RS2.below hb3
  clear RS2 i1 hb3
  go_wp2_with fail
  refine (i2 w3).mono ?_
  rintro x w4 ⟨rfl, hb4⟩
  have RS4 := RS3.below hb4
  obtain ⟨c0, c1, c2, c3⟩ := RS4.rd.cells
  have f1 := RS4.rd.froz
  rw [← HA.out] at c1
  have HRA := Lib.hid (HPA.out ▸ RS4.adv HPL.out : ResN w (w4.setCell ⟨R, 1, none⟩ (.int .i64 (p : Int))) R s st.adv)
  clear RS3 i2 hb4 RS4
  have hesc := HEC.out (w4.setCell ⟨R, 1, none⟩ (.int .i64 (p : Int))) HE0.out HRA.out.rd
  go_wp2_with fail
  refine hesc.mono ?_
  rintro x w5 ⟨rfl, hr5, hf5⟩
  have HR5 := Lib.hid (HRA.out.call hr5 hf5)
  have hput := put_v k HER.out.1 HER.out.2 w5
  rw [← HFV.out] at hput
  clear hesc hr5 hf5 c0 c1 c2 c3 f1
  go_wp2_with fail
  refine hput.mono ?_
  rintro x w6 ⟨rfl, hb6⟩
  have RS := HR5.out.below hb6
  clear hput hb6
  obtain ⟨v0, v1, v2, v3, v4, v5, v6, v7⟩ := n_cells RS.res
  obtain ⟨q0, q1, q2, q3, q4, q5, q6, q7⟩ := n_froz RS.res
  have HRS := Lib.hid RS
  clear RS
  go_wp2_with fail
  refine post_row_one2 (g := w.heap.size) (cs := #[.int .i64 1, .int .u64 (clsOf FV 0), .int .u64 (clsOf FV 1), .int .u64 (clsOf FV 2), .int .u64 (clsOf FV 3), .slice none 0 0, .int .i64 0, .int .i64 0]) (t := 28) (fr := (0, 0)) (x := .bool true) Try.results55 rfl (blk_set8 HRS.out.res) Try.underlying28 (by rfl) (by kernel_rfl) rfl rfl ?_
  have hlt := HRS.out.lt
  rw [HAV.out, HAE.out]
  exact ⟨none, 0, rfl, FN.leaf _ _ _ rfl, rd_set8 HRS.out.rd (by omega) _ _ _ _ _ _ _ _, fr_set8 HRS.out.fr (Nat.le_refl _) _ _ _ _ _ _ _ _⟩
set_option maxHeartbeats 4000000 in
theorem atom_set (h91 : gb s st.at_ = 91) : AtomC R s st w := by
  have HAV : Hid (atomV s st = (((atomE s (gb s st.at_) st).1, true), (atomE s (gb s st.at_) st).2)) := Lib.hid (by unfold atomV; rw [if_pos ⟨hg, h41, h124⟩, if_neg (by rw [hbad]; decide), if_neg (by rw [h91]; decide)])
  have HAE : Hid (atomE s (gb s st.at_) st = (setN (setS s st.adv).1, (setS s st.adv).2)) := Lib.hid (by unfold atomE; rw [if_pos h91])
  obtain ⟨E, hE⟩ : ∃ E, E = setS s st.adv := ⟨_, rfl⟩
  rw [← hE] at HAE
  obtain ⟨FV, ste⟩ := E
  have hEC := rr_set R s st.adv
  rw [← hE] at hEC
  dsimp only at HAE hEC
  have HEC := Lib.hid hEC
  have hR0 := ResN.start h
  have hnx := rr_next R s st _ hR0.rd
  rw [nextV_go hg] at hnx
  have hr := gb_range s st.at_
  have hB := atB s _ hr.1 hr.2 h41 h124
  skip
  rw [hbad] at hB
  have hat := hg.2
  have hsz := h.hsz
  have he0 := hg.1
  rw [h91] at hnx hB
  have hw8 : IntKind.u8.wrap 91 = 91 := by rw [IntKind.wrap_u8]; rfl
  clear h91
  have hcr := Lib.hid (And.intro hB.lo hB.hi)
  have i1 := hB.i1
  have i2 := hB.i2
  obtain ⟨a, ha⟩ : ∃ a, a = st.at_ := ⟨_, rfl⟩
  obtain ⟨p, hpp⟩ : ∃ p : Nat, p = a + 1 := ⟨_, rfl⟩
  have hwr : IntKind.i64.wrap ((a : Int) + 1) = (p : Int) := by rw [IntKind.wrap_i64]; omega
  have HPA := Lib.hid (show p = st.at_ + 1 by omega)
  have HPL := Lib.hid (show st.at_ + 1 ≤ s.size by omega)
  have HA := Lib.hid ha
  have HE0 := Lib.hid he0
  unfold AtomC
  clear hE hEC h hg h41 h124 hbad hr hB hat hsz ha hpp he0
  go_enter Try.func55, Try.ntmps55
  go_wp2_with fail
  refine hnx.mono ?_
  rintro x w2 ⟨rfl, hr2, hf2⟩
  have RS2 := hR0.call hr2 hf2
  clear hnx hR0 hr2 hf2
  go_wp2_with fail
  refine (i1 w2).mono ?_
  rintro x w3 ⟨rfl, hb3⟩
  have RS3 := RS2.below hb3
  clear RS2 i1 hb3
  go_wp2_with fail
  refine (i2 w3).mono ?_
  rintro x w4 ⟨rfl, hb4⟩
  have RS4 := RS3.below hb4
  obtain ⟨c0, c1, c2, c3⟩ := RS4.rd.cells
  have f1 := RS4.rd.froz
  rw [← HA.out] at c1
  have HRA := Lib.hid (HPA.out ▸ RS4.adv HPL.out : ResN w (w4.setCell ⟨R, 1, none⟩ (.int .i64 (p : Int))) R s st.adv)
  clear RS3 i2 hb4 RS4
  have hset := HEC.out (w4.setCell ⟨R, 1, none⟩ (.int .i64 (p : Int))) HE0.out HRA.out.rd
  go_wp2_with fail
  refine hset.mono ?_
  rintro x w5 ⟨rfl, hr5, hf5⟩
  have RS := HRA.out.call hr5 hf5
  clear hset hr5 hf5 c0 c1 c2 c3 f1
  obtain ⟨v0, v1, v2, v3, v4, v5, v6, v7⟩ := n_cells RS.res
  obtain ⟨q0, q1, q2, q3, q4, q5, q6, q7⟩ := n_froz RS.res
  have HRS := Lib.hid RS
  clear RS
  go_wp2_with fail
  refine post_row_one2 (g := w.heap.size) (cs := #[.int .i64 1, .int .u64 (clsOf FV 0), .int .u64 (clsOf FV 1), .int .u64 (clsOf FV 2), .int .u64 (clsOf FV 3), .slice none 0 0, .int .i64 0, .int .i64 0]) (t := 28) (fr := (0, 0)) (x := .bool true) Try.results55 rfl (blk_set8 HRS.out.res) Try.underlying28 (by rfl) (by kernel_rfl) rfl rfl ?_
  have hlt := HRS.out.lt
  rw [HAV.out, HAE.out]
  exact ⟨none, 0, rfl, FN.leaf _ _ _ rfl, rd_set8 HRS.out.rd (by omega) _ _ _ _ _ _ _ _, fr_set8 HRS.out.fr (Nat.le_refl _) _ _ _ _ _ _ _ _⟩
end
end Go.Proofs.Ytmkcbbamfkafmaa.P
