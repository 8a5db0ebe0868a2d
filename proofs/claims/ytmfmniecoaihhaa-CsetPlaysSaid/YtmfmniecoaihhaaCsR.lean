/- Layer 9, plain: the document's lists are the sets' counts. No program in sight. -/
import Derived.Test.YtmfmniecoaihhaaCsF
namespace Go.Proofs.Ytmfmniecoaihhaa

/-- The document's Put, from a place on. -/
def putR (n : Int) : List Int → Bool → List Int
  | [], d => if d = true then [] else [n]
  | x :: xs, d => (if (!d && decide (n ≤ x)) = true then [n] else []) ++ ((if x = n then [] else [x]) ++ putR n xs (d || decide (n ≤ x)))
theorem putR_mem (n : Int) (l : List Int) (d : Bool) (x : Int) : x ∈ putR n l d ↔ (x ∈ l ∧ x ≠ n) ∨ (d = false ∧ x = n) := by
  induction l generalizing d with
  | nil => cases d <;> simp [putR]
  | cons y l ih =>
    rw [putR]
    simp only [List.mem_append, ih, List.mem_cons]
    by_cases hy : n ≤ y <;> by_cases e : y = n <;> cases d <;> simp [hy, e] <;> grind
theorem putR_length' (n : Int) (l : List Int) (d : Bool) : (putR n l d).length ≤ l.length + (if d = true then 0 else 1) := by
  induction l generalizing d with
  | nil => cases d <;> simp [putR]
  | cons y l ih =>
    have h1 := ih (d || decide (n ≤ y))
    have h2 : (if y = n then ([] : List Int) else [y]).length ≤ 1 := by split <;> simp
    rw [putR, List.length_append, List.length_append, List.length_cons]
    generalize (if y = n then ([] : List Int) else [y]).length = a at *
    generalize hb : (putR n l (d || decide (n ≤ y))).length = b at *
    clear hb
    cases d <;> by_cases hy : n ≤ y <;> simp [hy] at h1 ⊢ <;> omega
theorem putR_length (n : Int) (l : List Int) (d : Bool) : (putR n l d).length ≤ l.length + 1 := by
  have := putR_length' n l d
  split at this <;> omega
theorem putR_inc (n : Int) (l : List Int) (d : Bool) (h : Inc l) (hd : d = true → ∀ x ∈ l, n ≤ x) : Inc (putR n l d) := by
  induction l generalizing d with
  | nil => cases d <;> simp [putR, Inc]
  | cons y l ih =>
    have h' := List.pairwise_cons.1 h
    rw [putR]
    have i1 := ih (d || decide (n ≤ y)) h'.2 (fun hd' x hx => by
      have := h'.1 x hx
      rcases Bool.or_eq_true _ _ ▸ hd' with e | e
      · exact hd e x (List.mem_cons_of_mem _ hx)
      · have := of_decide_eq_true e; omega)
    have hmem : ∀ x ∈ putR n l (d || decide (n ≤ y)), y < x ∨ (x = n ∧ ¬ n ≤ y) := fun x hx => by
      rcases (putR_mem _ _ _ _).1 hx with ⟨h1, _⟩ | ⟨h1, h2⟩
      · exact .inl (h'.1 x h1)
      · exact .inr ⟨h2, by simp at h1; omega⟩
    have hmem2 : ∀ x ∈ putR n l (d || decide (n ≤ y)), y < x := fun x hx => by rcases hmem x hx with h | ⟨h1, h2⟩ <;> omega
    unfold Inc at *
    refine List.pairwise_append.2 ⟨by split <;> simp, List.pairwise_append.2 ⟨by split <;> simp, i1, ?_⟩, ?_⟩
    · intro a ha b hb
      have := hmem2 b hb
      split at ha
      · cases ha
      · rw [List.mem_singleton] at ha; omega
    · intro a ha b hb
      split at ha
      · rename_i hc
        rw [List.mem_singleton] at ha
        have hny : n ≤ y := by simp at hc; exact hc.2
        rcases List.mem_append.1 hb with hb | hb
        · split at hb
          · cases hb
          · rw [List.mem_singleton] at hb; omega
        · have := hmem2 b hb; omega
      · cases ha
/-- The greatest count, and the document's Next. -/
def rtop (lo hi : Int) : Int := if hi < 0 then lo else hi
def nextStep (lo hi : Int) (out : List Int) (x : Int) : List Int := if x < rtop lo hi then putR (x + 1) out false else if hi < 0 then putR lo out false else out
def nextL (lo hi : Int) (l : List Int) : List Int := l.foldl (nextStep lo hi) []
theorem nextStep_inc (lo hi : Int) (out : List Int) (x : Int) (h : Inc out) : Inc (nextStep lo hi out x) := by
  unfold nextStep
  split
  · exact putR_inc _ _ _ h (by simp)
  · split
    · exact putR_inc _ _ _ h (by simp)
    · exact h
theorem nextStep_length (lo hi : Int) (out : List Int) (x : Int) : (nextStep lo hi out x).length ≤ out.length + 1 := by
  unfold nextStep
  split
  · exact putR_length _ _ _
  · split
    · exact putR_length _ _ _
    · omega
theorem nextStep_mem (lo hi : Int) (out : List Int) (y x : Int) : x ∈ nextStep lo hi out y ↔ x ∈ out ∨ (y < rtop lo hi ∧ x = y + 1) ∨ (¬ y < rtop lo hi ∧ hi < 0 ∧ x = lo) := by
  unfold nextStep
  split
  · rw [putR_mem]; grind
  · split
    · rw [putR_mem]; grind
    · grind
theorem fold_inc {f : List Int → Int → List Int} (hf : ∀ out x, Inc out → Inc (f out x)) (l out : List Int) (h : Inc out) : Inc (l.foldl f out) := by
  induction l generalizing out with
  | nil => exact h
  | cons y l ih => exact ih _ (hf _ _ h)
theorem fold_mem {f : List Int → Int → List Int} {R : Int → Int → Prop} (hf : ∀ out y x, x ∈ f out y ↔ x ∈ out ∨ R y x) (l out : List Int) (x : Int) : x ∈ l.foldl f out ↔ x ∈ out ∨ ∃ y ∈ l, R y x := by
  induction l generalizing out with
  | nil => simp
  | cons y l ih =>
    rw [List.foldl_cons, ih, hf]
    simp only [List.mem_cons]
    grind

/-- What sets are like. -/
structure Good (lo hi : Int) (s : St) : Prop where
  dec : Dec s.cs
  mem : ∀ c ∈ s.cs, 1 ≤ c ∧ c ≤ topZ lo hi
  full : s.full = true → hi = -1
theorem counts_mem (lo : Int) (s : St) (x : Int) : x ∈ s.counts lo ↔ x ∈ s.cs ∨ (s.full = true ∧ x = lo) := by
  unfold St.counts
  cases s.full <;> simp
theorem Good.inc {lo hi : Int} {s : St} (h : Good lo hi s) : Inc (s.counts lo) := by
  unfold St.counts
  refine List.pairwise_append.2 ⟨inc_reverse h.dec, by split <;> simp, fun a ha b hb => ?_⟩
  split at hb
  · rename_i hf
    have e := h.full hf
    rw [List.mem_singleton] at hb
    have := h.mem a (by simpa using ha)
    rw [topZ, if_pos e] at this
    omega
  · cases hb
theorem Sc.top {lo hi : Int} (h : Sc lo hi) : 1 ≤ topZ lo hi := by
  rcases h.hi with ⟨e, h1⟩ | ⟨h1, _, _⟩
  · rw [topZ, if_pos e]; omega
  · rw [topZ, if_neg (by omega)]; omega
theorem good_new (lo hi : Int) : Good lo hi St.new := ⟨by simp [St.new, Dec], fun c hc => by simp [St.new] at hc, fun h => by simp [St.new] at h⟩
theorem trim_facts {lo hi : Int} {s : St} (hd : Dec s.cs) (hm : ∀ c ∈ s.cs, 1 ≤ c ∧ c ≤ topZ lo hi + 1) (hf : s.full = true → hi = -1) :
    Good lo hi (s.trim lo hi) ∧ (∀ x, x ∈ (s.trim lo hi).cs ↔ x ∈ s.cs ∧ x ≤ topZ lo hi) ∧ ((s.trim lo hi).full = true ↔ s.full = true ∨ (hi = -1 ∧ ∃ x ∈ s.cs, topZ lo hi < x)) := by
  unfold St.trim
  cases hc : s.cs with
  | nil =>
    rw [if_neg (by simp [tooBig])]
    refine ⟨⟨hd, fun c h => (by rw [hc] at h; cases h), hf⟩, fun x => by simp [hc], by simp⟩
  | cons y l =>
    rw [hc] at hd hm
    have hd' := List.pairwise_cons.1 hd
    have hy := hm y (List.mem_cons_self ..)
    by_cases hb : topZ lo hi < y
    · rw [if_pos (by simp [tooBig, hb])]
      have hl : ∀ x ∈ l, 1 ≤ x ∧ x ≤ topZ lo hi := fun x hx => ⟨(hm x (List.mem_cons_of_mem _ hx)).1, by have := hd'.1 x hx; omega⟩
      refine ⟨⟨by simp only [hc, List.tail_cons]; exact hd'.2, fun c h => hl c (by simpa [hc] using h), fun h => ?_⟩, fun x => ?_, ?_⟩
      · simp only [Bool.or_eq_true, opnB, decide_eq_true_eq] at h
        exact h.elim hf id
      · simp only [hc, List.tail_cons, List.mem_cons]
        constructor
        · intro h; exact ⟨.inr h, (hl x h).2⟩
        · rintro ⟨rfl | h, h2⟩
          · omega
          · exact h
      · simp only [Bool.or_eq_true, opnB, decide_eq_true_eq]
        constructor
        · rintro (h | h)
          · exact .inl h
          · exact .inr ⟨h, y, List.mem_cons_self .., hb⟩
        · rintro (h | ⟨h, _⟩)
          · exact .inl h
          · exact .inr h
    · rw [if_neg (by simp [tooBig, hb])]
      have hl : ∀ x ∈ y :: l, 1 ≤ x ∧ x ≤ topZ lo hi := fun x hx => ⟨(hm x hx).1, by
        rcases List.mem_cons.1 hx with rfl | hx
        · omega
        · have := hd'.1 x hx; omega⟩
      refine ⟨⟨by rw [hc]; exact hd, fun c h => hl c (by rwa [hc] at h), hf⟩, fun x => ?_, ?_⟩
      · rw [hc]
        exact ⟨fun h => ⟨h, (hl x h).2⟩, fun h => h.1⟩
      · constructor
        · exact .inl
        · rintro (h | ⟨_, x, hx, h2⟩)
          · exact h
          · have := (hl x hx).2; omega
theorem begin_facts {lo hi : Int} {s : St} (hsc : Sc lo hi) (h : Good lo hi s) : Good lo hi (s.begin lo hi) ∧ ∀ x, x ∈ (s.begin lo hi).counts lo ↔ x ∈ s.counts lo ∨ x = 1 := by
  have ht := hsc.top
  have hm : ∀ x, x ∈ s.bgn.cs ↔ x ∈ s.cs ∨ x = 1 := fun x => by
    simp only [St.bgn]
    cases hb : beg s.cs with
    | true => simp
    | false =>
      obtain ⟨m, e⟩ := St.beg_false hb
      simp only [Bool.false_eq_true, if_false]
      constructor
      · exact .inl
      · rintro (h | rfl)
        · exact h
        · rw [e]; simp
  have hd : Dec s.bgn.cs := by
    simp only [St.bgn]
    split
    · rename_i hb
      refine List.pairwise_append.2 ⟨h.dec, by simp, fun a ha c hc => ?_⟩
      rw [List.mem_singleton] at hc
      subst hc
      have := (h.mem a ha).1
      have hne : a ≠ 1 := by
        rintro rfl
        rcases nil_or_snoc s.cs with e | ⟨m, x, e⟩
        · rw [e] at ha; cases ha
        · have hd := h.dec
          rw [e] at ha hd
          have hx1 := (h.mem x (by rw [e]; simp)).1
          have hxn : x ≠ 1 := by
            rintro rfl
            simp [beg, e] at hb
          rcases List.mem_append.1 ha with ha | ha
          · have := (List.pairwise_append.1 hd).2.2 1 ha x (by simp)
            omega
          · simp at ha; omega
      omega
    · exact h.dec
  obtain ⟨g, hx, hfu⟩ := trim_facts (lo := lo) (hi := hi) (s := s.bgn) hd (fun c hc => by
    rcases (hm c).1 hc with h1 | rfl
    · have := h.mem c h1; omega
    · omega) h.full
  refine ⟨g, fun x => ?_⟩
  have hle : ∀ x ∈ s.bgn.cs, x ≤ topZ lo hi := fun x hx => by
    rcases (hm x).1 hx with h1 | rfl
    · exact (h.mem x h1).2
    · exact ht
  rw [counts_mem, counts_mem]
  show x ∈ (s.bgn.trim lo hi).cs ∨ ((s.bgn.trim lo hi).full = true ∧ x = lo) ↔ _
  rw [hx, hfu, hm]
  have hno : ¬ ∃ x ∈ s.bgn.cs, topZ lo hi < x := fun ⟨x, h1, h2⟩ => by have := hle x h1; omega
  constructor
  · rintro (⟨h1 | h1, _⟩ | ⟨h1 | ⟨_, h1⟩, h2⟩)
    · exact .inl (.inl h1)
    · exact .inr h1
    · exact .inl (.inr ⟨h1, h2⟩)
    · exact absurd h1 hno
  · rintro ((h1 | h1) | h1)
    · exact .inl ⟨.inl h1, hle x ((hm x).2 (.inl h1))⟩
    · exact .inr ⟨.inl h1.1, h1.2⟩
    · exact .inl ⟨.inr h1, hle x ((hm x).2 (.inr h1))⟩
theorem begin_put {lo hi : Int} {s : St} (hsc : Sc lo hi) (h : Good lo hi s) : putR 1 (s.counts lo) false = (s.begin lo hi).counts lo := by
  obtain ⟨g, hm⟩ := begin_facts hsc h
  refine inc_ext (putR_inc _ _ _ h.inc (by simp)) g.inc fun x => ?_
  rw [putR_mem, hm]
  grind
theorem next_facts {lo hi : Int} {s : St} (hsc : Sc lo hi) (h : Good lo hi s) : Good lo hi (s.next lo hi) ∧ nextL lo hi (s.counts lo) = (s.next lo hi).counts lo := by
  have hm : ∀ x, x ∈ s.nxt.cs ↔ x - 1 ∈ s.cs := fun x => by
    simp only [St.nxt, List.mem_map]
    constructor
    · rintro ⟨y, h1, rfl⟩
      rwa [show y + 1 - 1 = y by omega]
    · intro h1
      exact ⟨x - 1, h1, by omega⟩
  obtain ⟨g, hx, hfu⟩ := trim_facts (lo := lo) (hi := hi) (s := s.nxt) (List.pairwise_map.2 (h.dec.imp fun hab => by omega)) (fun c hc => by
    have := h.mem _ ((hm c).1 hc); omega) h.full
  refine ⟨g, inc_ext (fold_inc (fun out x ho => nextStep_inc lo hi out x ho) _ _ (by simp [Inc])) g.inc fun x => ?_⟩
  unfold nextL
  rw [fold_mem (nextStep_mem lo hi), counts_mem]
  show _ ↔ x ∈ (s.nxt.trim lo hi).cs ∨ ((s.nxt.trim lo hi).full = true ∧ x = lo)
  rw [hx, hfu, hm]
  have hff : s.nxt.full = s.full := rfl
  rw [hff]
  simp only [List.not_mem_nil, false_or, counts_mem, hm]
  rcases hsc.hi with ⟨e, h1⟩ | ⟨h1, h2, h3⟩
  · have et : topZ lo hi = lo - 1 := by rw [topZ, if_pos e]
    have er : rtop lo hi = lo := by rw [rtop, if_pos (by omega)]
    rw [et, er]
    have hmm := h.mem
    rw [et] at hmm
    constructor
    · rintro ⟨y, hy | ⟨hy, rfl⟩, ⟨hl, rfl⟩ | ⟨hl, _, rfl⟩⟩
      · by_cases hle : y + 1 ≤ lo - 1
        · exact .inl ⟨by rwa [show y + 1 - 1 = y by omega], hle⟩
        · exact .inr ⟨.inr ⟨e, y + 1, by rwa [show y + 1 - 1 = y by omega], by omega⟩, by omega⟩
      · have := hmm y hy; omega
      · omega
      · exact .inr ⟨.inl hy, rfl⟩
    · rintro (⟨h4, h5⟩ | ⟨h4 | ⟨_, y, h5, h6⟩, rfl⟩)
      · exact ⟨x - 1, .inl h4, .inl ⟨by omega, by omega⟩⟩
      · exact ⟨x, .inr ⟨h4, rfl⟩, .inr ⟨by omega, by omega, rfl⟩⟩
      · have := hmm _ h5
        exact ⟨y - 1, .inl h5, .inl ⟨by omega, by omega⟩⟩
  · have et : topZ lo hi = hi := by rw [topZ, if_neg (by omega)]
    have er : rtop lo hi = hi := by rw [rtop, if_neg (by omega)]
    have hnf : ¬ s.full = true := fun hf => by have := h.full hf; omega
    rw [et, er]
    constructor
    · rintro ⟨y, hy | ⟨hy, rfl⟩, ⟨hl, rfl⟩ | ⟨hl, h4, rfl⟩⟩
      · exact .inl ⟨by rwa [show y + 1 - 1 = y by omega], by omega⟩
      · omega
      · exact absurd hy hnf
      · omega
    · rintro (⟨h4, h5⟩ | ⟨h4 | ⟨h5, _⟩, rfl⟩)
      · exact ⟨x - 1, .inl h4, .inl ⟨by omega, by omega⟩⟩
      · exact absurd h4 hnf
      · omega
theorem merge_facts {lo hi : Int} {s t : St} (h : Good lo hi s) (k : Good lo hi t) : Good lo hi (s.merge t) ∧ (t.counts lo).foldl (fun l n => putR n l false) (s.counts lo) = (s.merge t).counts lo := by
  have g : Good lo hi (s.merge t) := by
    refine ⟨mrg_dec h.dec k.dec, fun c hc => ?_, fun hf => ?_⟩
    · rcases (mrg_mem _ _ _).1 hc with hc | hc
      · exact h.mem c hc
      · exact k.mem c hc
    · simp only [St.merge, Bool.or_eq_true] at hf
      exact hf.elim h.full k.full
  refine ⟨g, inc_ext (fold_inc (fun out x ho => putR_inc _ _ _ ho (by simp)) _ _ h.inc) g.inc fun x => ?_⟩
  rw [fold_mem (R := fun y x => x = y) (fun out y x => by rw [putR_mem]; grind), counts_mem, counts_mem]
  simp only [counts_mem, St.merge, mrg_mem, Bool.or_eq_true]
  grind
theorem small_good {lo hi : Int} (hsc : Sc lo hi) (l : List Int) : Good lo hi (smallSt lo hi l) := by
  suffices h : ∀ l : List Int, Good lo hi (smallSt lo hi l.reverse) by simpa using h l.reverse
  intro l
  induction l with
  | nil => exact good_new lo hi
  | cons x l ih =>
    rw [List.reverse_cons, smallSt_snoc]
    split
    · exact (begin_facts hsc ih).1
    · exact (next_facts hsc ih).1
theorem counts_bound {lo hi : Int} {s : St} (hsc : Sc lo hi) (h : Good lo hi s) : ∀ x ∈ s.counts lo, 1 ≤ x ∧ x ≤ 2147483647 := fun x hx => by
  have h1 := hsc.lo1
  have h2 := hsc.lo2
  rcases (counts_mem lo s x).1 hx with hx | ⟨_, rfl⟩
  · have := h.mem x hx
    have ht : topZ lo hi ≤ 2147483647 := by
      rcases hsc.hi with ⟨e, _⟩ | ⟨a, _, _⟩
      · rw [topZ, if_pos e]; omega
      · rw [topZ, if_neg (by omega)]; omega
    omega
  · omega
/-- The law's answers. -/
theorem counts_len (lo : Int) (s : St) : (s.counts lo).length = s.len := by
  unfold St.counts St.len
  split <;> simp
theorem done_any_of {lo hi : Int} {s : St} (h : Good lo hi s) : (s.counts lo).any (fun x => decide (lo ≤ x)) = s.done lo := by
  rw [Bool.eq_iff_iff, List.any_eq_true]
  simp only [counts_mem, decide_eq_true_eq, St.done, Bool.or_eq_true]
  cases hc : s.cs with
  | nil =>
    simp only [List.not_mem_nil, false_or, Bool.false_eq_true, or_false]
    exact ⟨fun ⟨_, ⟨h1, _⟩, _⟩ => h1, fun h1 => ⟨lo, ⟨h1, rfl⟩, by omega⟩⟩
  | cons y l =>
    have hd := h.dec
    rw [hc] at hd
    have hd' := List.pairwise_cons.1 hd
    simp only [decide_eq_true_eq, List.mem_cons]
    constructor
    · rintro ⟨x, (rfl | hx) | ⟨hf, _⟩, hl⟩
      · exact .inr hl
      · have := hd'.1 x hx; exact .inr (by omega)
      · exact .inl hf
    · rintro (hf | hl)
      · exact ⟨lo, .inr ⟨hf, rfl⟩, by omega⟩
      · exact ⟨y, .inl (.inl rfl), hl⟩
theorem len_max {lo hi : Int} {s : St} (hsc : Sc lo hi) (h : Good lo hi s) : (s.len : Int) ≤ max lo hi := by
  have h1 := dec_length h.dec h.mem (by have := hsc.top; omega)
  have h2 := hsc.lo1
  unfold St.len
  rcases hsc.hi with ⟨e, h3⟩ | ⟨h3, h4, h5⟩
  · rw [topZ, if_pos e] at h1
    split <;> omega
  · rw [topZ, if_neg (by omega)] at h1
    rw [if_neg (fun hf => by have := h.full hf; omega)]
    omega
end Go.Proofs.Ytmfmniecoaihhaa
