/- Layer 9, plain: a set of counts as a falling list, what the program's calls make of it, and what the document's lists are. No program in sight. -/
import Derived.Deep.OwnRows
namespace Go.Proofs.Ytmfmniecoaihhaa

/-- Falls. -/
def Dec (l : List Int) : Prop := l.Pairwise (fun a b => b < a)
/-- Rises. -/
def Inc (l : List Int) : Prop := l.Pairwise (fun a b => a < b)
theorem inc_reverse {l : List Int} (h : Dec l) : Inc l.reverse := by unfold Inc; rw [List.pairwise_reverse]; exact h
theorem inc_ext {l m : List Int} (hl : Inc l) (hm : Inc m) (h : ∀ x, x ∈ l ↔ x ∈ m) : l = m := by
  induction l generalizing m with
  | nil =>
    cases m with
    | nil => rfl
    | cons b m => exact absurd ((h b).2 (List.mem_cons_self ..)) (List.not_mem_nil)
  | cons a l ih =>
    cases m with
    | nil => exact absurd ((h a).1 (List.mem_cons_self ..)) (List.not_mem_nil)
    | cons b m =>
      have hl' := List.pairwise_cons.1 hl
      have hm' := List.pairwise_cons.1 hm
      have hab : a = b := by
        have h1 := (h a).1 (List.mem_cons_self ..)
        have h2 := (h b).2 (List.mem_cons_self ..)
        rcases List.mem_cons.1 h1 with h1 | h1
        · exact h1
        · rcases List.mem_cons.1 h2 with h2 | h2
          · exact h2.symm
          · have := hl'.1 b h2
            have := hm'.1 a h1
            omega
      subst hab
      congr 1
      refine ih hl'.2 hm'.2 fun x => ⟨fun hx => ?_, fun hx => ?_⟩
      · have := hl'.1 x hx
        rcases List.mem_cons.1 ((h x).1 (List.mem_cons_of_mem _ hx)) with e | e
        · omega
        · exact e
      · have := hm'.1 x hx
        rcases List.mem_cons.1 ((h x).2 (List.mem_cons_of_mem _ hx)) with e | e
        · omega
        · exact e
theorem inc_length {l : List Int} {a b : Int} (h : Inc l) (ha : ∀ x ∈ l, a ≤ x ∧ x ≤ b) (hab : a ≤ b + 1) : (l.length : Int) ≤ b + 1 - a := by
  induction l generalizing a with
  | nil => simp; omega
  | cons x l ih =>
    have h' := List.pairwise_cons.1 h
    have hx := ha x (List.mem_cons_self ..)
    have := ih (a := x + 1) h'.2 (fun y hy => ⟨by have := h'.1 y hy; omega, (ha y (List.mem_cons_of_mem _ hy)).2⟩) (by omega)
    rw [List.length_cons]
    omega
theorem dec_length {l : List Int} {b : Int} (h : Dec l) (ha : ∀ x ∈ l, 1 ≤ x ∧ x ≤ b) (hb : 0 ≤ b) : (l.length : Int) ≤ b := by
  have := inc_length (a := 1) (b := b) (inc_reverse h) (fun x hx => ha x (by simpa using hx)) (by omega)
  rw [List.length_reverse] at this
  omega

/-- What a set tells. -/
structure St where
  off : Int
  cs : List Int
  full : Bool
  steps : Int

/-- The greatest count of the queue. -/
def topZ (lo hi : Int) : Int := if hi = -1 then lo - 1 else hi
def opnB (hi : Int) : Bool := decide (hi = -1)
def tooBig (lo hi : Int) : List Int → Bool
  | [] => false
  | c :: _ => decide (topZ lo hi < c)
namespace St
def trim (lo hi : Int) (s : St) : St := if tooBig lo hi s.cs = true then ⟨s.off, s.cs.tail, s.full || opnB hi, s.steps + 1⟩ else s
end St
/-- Is 1 not there? -/
def beg (l : List Int) : Bool := !(l.getLast? == some 1)
namespace St
def bgn (s : St) : St := ⟨s.off, if beg s.cs = true then s.cs ++ [1] else s.cs, s.full, s.steps + 1⟩
def begin (lo hi : Int) (s : St) : St := s.bgn.trim lo hi
def nxt (s : St) : St := ⟨s.off + 1, s.cs.map (· + 1), s.full, s.steps + 1⟩
def next (lo hi : Int) (s : St) : St := s.nxt.trim lo hi
end St
/-- Two falling lists made one. -/
def mrg : List Int → List Int → List Int
  | [], b => b
  | a :: as, [] => a :: as
  | a :: as, b :: bs => if b < a then a :: mrg as (b :: bs) else if a < b then b :: mrg (a :: as) bs else a :: mrg as bs
termination_by a b => a.length + b.length
/-- How many rounds that takes. -/
def mrgN : List Int → List Int → Nat
  | [], b => b.length
  | a :: as, [] => (a :: as).length
  | a :: as, b :: bs => if b < a then mrgN as (b :: bs) + 1 else if a < b then mrgN (a :: as) bs + 1 else mrgN as bs + 1
termination_by a b => a.length + b.length
theorem mrg_nil (a : List Int) : mrg a [] = a := by cases a <;> simp [mrg]
theorem mrgN_nil (a : List Int) : mrgN a [] = a.length := by cases a <;> simp [mrgN]
theorem mrgN_eq (a b : List Int) : mrgN a b = (mrg a b).length := by
  fun_induction mrg a b with
  | case1 => simp [mrgN]
  | case2 => simp [mrgN]
  | case3 a as b bs h ih => rw [mrgN, if_pos h, ih]; rfl
  | case4 a as b bs h h' ih => rw [mrgN, if_neg h, if_pos h', ih]; rfl
  | case5 a as b bs h h' ih => rw [mrgN, if_neg h, if_neg h', ih]; rfl
theorem mrg_mem (a b : List Int) (x : Int) : x ∈ mrg a b ↔ x ∈ a ∨ x ∈ b := by
  fun_induction mrg a b with
  | case1 => simp
  | case2 => simp
  | case3 a as b bs h ih => simp only [List.mem_cons, ih]; grind
  | case4 a as b bs h h' ih => simp only [List.mem_cons, ih]; grind
  | case5 a as b bs h h' ih =>
    have : a = b := by omega
    subst this
    simp only [List.mem_cons, ih]; grind
theorem mrg_dec {a b : List Int} (ha : Dec a) (hb : Dec b) : Dec (mrg a b) := by
  fun_induction mrg a b with
  | case1 => exact hb
  | case2 => exact ha
  | case3 a as b bs h ih =>
    have ha' := List.pairwise_cons.1 ha
    have hb' := List.pairwise_cons.1 hb
    refine List.pairwise_cons.2 ⟨fun x hx => ?_, ih ha'.2 hb⟩
    rcases (mrg_mem _ _ _).1 hx with hx | hx
    · exact ha'.1 x hx
    · rcases List.mem_cons.1 hx with rfl | hx
      · exact h
      · have := hb'.1 x hx; omega
  | case4 a as b bs h h' ih =>
    have ha' := List.pairwise_cons.1 ha
    have hb' := List.pairwise_cons.1 hb
    refine List.pairwise_cons.2 ⟨fun x hx => ?_, ih ha hb'.2⟩
    rcases (mrg_mem _ _ _).1 hx with hx | hx
    · rcases List.mem_cons.1 hx with rfl | hx
      · exact h'
      · have := ha'.1 x hx; omega
    · exact hb'.1 x hx
  | case5 a as b bs h h' ih =>
    have : a = b := by omega
    subst this
    have ha' := List.pairwise_cons.1 ha
    have hb' := List.pairwise_cons.1 hb
    refine List.pairwise_cons.2 ⟨fun x hx => ?_, ih ha'.2 hb'.2⟩
    rcases (mrg_mem _ _ _).1 hx with hx | hx
    · exact ha'.1 x hx
    · exact hb'.1 x hx
theorem dec_ext {l m : List Int} (hl : Dec l) (hm : Dec m) (h : ∀ x, x ∈ l ↔ x ∈ m) : l = m := by
  have := inc_ext (inc_reverse hl) (inc_reverse hm) (fun x => by simpa using h x)
  simpa using congrArg List.reverse this
theorem mrgN_le (a b : List Int) : mrgN a b ≤ a.length + b.length := by
  fun_induction mrgN a b <;> simp only [List.length_cons, List.length_nil] at * <;> omega
namespace St
def merge (s d : St) : St := ⟨s.off, mrg s.cs d.cs, s.full || d.full, s.steps + mrgN s.cs d.cs + 1⟩
def len (s : St) : Nat := if s.full = true then s.cs.length + 1 else s.cs.length
def done (lo : Int) (s : St) : Bool := s.full || (match s.cs with | [] => false | c :: _ => decide (lo ≤ c))
def counts (lo : Int) (s : St) : List Int := s.cs.reverse ++ if s.full = true then [lo] else []
/-- Nothing is great. -/
structure Sane (b : Int) (s : St) : Prop where
  dec : Dec s.cs
  mem : ∀ c ∈ s.cs, 1 ≤ c ∧ c ≤ b
  off0 : 0 ≤ s.off
  off1 : s.off ≤ b
  st0 : 0 ≤ s.steps
  st1 : s.steps ≤ 1000 * b
theorem Sane.le {b : Int} {s : St} (h : Sane b s) : 0 ≤ b := by have := h.off0; have := h.off1; omega
theorem Sane.length {b : Int} {s : St} (h : Sane b s) : (s.cs.length : Int) ≤ b := dec_length h.dec h.mem h.le
theorem Sane.mono {b b' : Int} {s : St} (h : Sane b s) (hb : b ≤ b') : Sane b' s :=
  ⟨h.dec, fun c hc => ⟨(h.mem c hc).1, by have := (h.mem c hc).2; omega⟩, h.off0, by have := h.off1; omega, h.st0, by have := h.st1; omega⟩
theorem beg_false {l : List Int} (h : beg l = false) : ∃ m, l = m ++ [1] := by
  simp only [beg, Bool.not_eq_false', beq_iff_eq] at h
  exact List.getLast?_eq_some_iff.1 h
theorem Sane.trim {b lo hi : Int} {s : St} (h : Sane b s) (k : s.steps + 1 ≤ 1000 * b) : Sane b (s.trim lo hi) := by
  unfold St.trim
  split
  · refine ⟨?_, fun c hc => h.mem c (List.mem_of_mem_tail hc), h.off0, h.off1, by have := h.st0; simp only; omega, k⟩
    exact List.Pairwise.sublist (List.tail_sublist _) h.dec
  · exact h
theorem Sane.bgn {b : Int} {s : St} (h : Sane b s) (hb : 1 ≤ b) : Sane (b + 1) s.bgn ∧ s.bgn.steps + 1 ≤ 1000 * (b + 1) := by
  refine ⟨⟨?_, fun c hc => ?_, h.off0, by have := h.off1; simp only [St.bgn]; omega, by have := h.st0; simp only [St.bgn]; omega, by have := h.st1; simp only [St.bgn]; omega⟩, by have := h.st1; simp only [St.bgn]; omega⟩
  · simp only [St.bgn]
    split
    · rename_i hbg
      refine List.pairwise_append.2 ⟨h.dec, by simp, fun a ha c hc => ?_⟩
      rw [List.mem_singleton] at hc
      subst hc
      have := (h.mem a ha).1
      have hne : a ≠ 1 := by
        rintro rfl
        obtain ⟨x, hx⟩ : ∃ x, s.cs.getLast? = some x := by
          cases hl : s.cs with
          | nil => rw [hl] at ha; cases ha
          | cons y ys => exact ⟨(y :: ys).getLast (by simp), List.getLast?_eq_some_getLast (by simp)⟩
        obtain ⟨m, hm⟩ := List.getLast?_eq_some_iff.1 hx
        have hd := h.dec
        rw [hm] at hd ha
        have hx1 := (h.mem x (by rw [hm]; simp)).1
        have hxn : x ≠ 1 := by
          rintro rfl
          simp [beg, hx] at hbg
        rcases List.mem_append.1 ha with ha | ha
        · have := (List.pairwise_append.1 hd).2.2 1 ha x (by simp)
          omega
        · simp at ha; omega
      omega
    · exact h.dec
  · simp only [St.bgn] at hc
    split at hc
    · rcases List.mem_append.1 hc with hc | hc
      · have := h.mem c hc; omega
      · rw [List.mem_singleton] at hc; omega
    · have := h.mem c hc; omega
theorem Sane.begin {b lo hi : Int} {s : St} (h : Sane b s) (hb : 1 ≤ b) : Sane (b + 1) (s.begin lo hi) := (h.bgn hb).1.trim (h.bgn hb).2
theorem Sane.nxt {b : Int} {s : St} (h : Sane b s) : Sane (b + 1) s.nxt ∧ s.nxt.steps + 1 ≤ 1000 * (b + 1) := by
  refine ⟨⟨?_, fun c hc => ?_, by have := h.off0; simp only [St.nxt]; omega, by have := h.off1; simp only [St.nxt]; omega, by have := h.st0; simp only [St.nxt]; omega, by have := h.st1; simp only [St.nxt]; omega⟩, by have := h.st1; simp only [St.nxt]; omega⟩
  · exact List.pairwise_map.2 (h.dec.imp fun hab => by omega)
  · obtain ⟨x, hx, rfl⟩ := List.mem_map.1 hc
    have := h.mem x hx
    omega
theorem Sane.next {b lo hi : Int} {s : St} (h : Sane b s) : Sane (b + 1) (s.next lo hi) := h.nxt.1.trim h.nxt.2
theorem Sane.merge {b : Int} {s d : St} (h : Sane b s) (k : Sane b d) (hb : b ≤ 400) : Sane (b + 1) (s.merge d) := by
  refine ⟨mrg_dec h.dec k.dec, fun c hc => ?_, h.off0, by have := h.off1; simp only [St.merge]; omega, by have := h.st0; simp only [St.merge]; omega, ?_⟩
  · rcases (mrg_mem _ _ _).1 hc with hc | hc
    · have := h.mem c hc; omega
    · have := k.mem c hc; omega
  · have := h.st1
    have := h.length
    have := k.length
    have := mrgN_le s.cs d.cs
    simp only [St.merge]
    omega
def new : St := ⟨0, [], false, 0⟩
theorem sane_new (b : Int) (hb : 0 ≤ b) : Sane b new := ⟨by simp [new, Dec], fun c hc => by simp [new] at hc, by simp [new], by simpa [new] using hb, by simp [new], by simp [new]; omega⟩
end St
end Go.Proofs.Ytmfmniecoaihhaa
