/- Layer 5, plain: what is collected of a tree. No memory in sight. -/
import Derived.Test.YtlnhiogpjdhhbaaM05
namespace Go.Proofs.Ytlnhiogpjdhhbaa.P
open Go.RowKit Go.Proofs.YtlnhiogpjdhhbaaW.PrintWords Go.Proofs.YtlnhiogpjdhhbaaW.PrintLast Go.Proofs.YtlnhiogpjdhhbaaW.PrintMore

structure Mp where
  sets : List S24
  scs : List (Int × Int)
  ars : List (List Int)
def isPos (x : S27) : Bool := x.f0 == 1 && !(emptyB x.f1)
def scO (x : S27) : Int × Int := (mx 1 x.f3, x.f4)
def ctB (x : S27) : Bool := x.f0 == 4 && (decide (x.f4 > 1) || (x.f4 == -1 && decide (mx 1 x.f3 > 1)))
def mp1 (al : List Int) (x : S27) (m : Mp) : Mp := if isPos x = true then ⟨m.sets ++ [x.f1], m.scs, m.ars ++ [al]⟩ else m
def mp2 (x : S27) (m : Mp) : Mp := if ctB x = true then ⟨m.sets, m.scs ++ [scO x], m.ars⟩ else m
def al2 (al : List Int) (x : S27) (m : Mp) : List Int := if ctB x = true then al ++ [(m.scs.length : Int)] else al
mutual
def walkT : List Int → S27 → Mp → Mp
  | al, ⟨k, s, ps, lo, hi⟩, m => walkL (al2 al ⟨k, s, ps, lo, hi⟩ m) ps (mp2 ⟨k, s, ps, lo, hi⟩ (mp1 al ⟨k, s, ps, lo, hi⟩ m))
def walkL : List Int → List S27 → Mp → Mp
  | _, [], m => m
  | al, p :: ps, m => walkL al ps (walkT al p m)
end
theorem walkT_eq (al : List Int) (x : S27) (m : Mp) : walkT al x m = walkL (al2 al x m) x.f2 (mp2 x (mp1 al x m)) := by
  obtain ⟨k, s, ps, lo, hi⟩ := x
  rw [walkT]
theorem walkL_append (al : List Int) (ps qs : List S27) (m : Mp) : walkL al (ps ++ qs) m = walkL al qs (walkL al ps m) := by
  induction ps generalizing m with
  | nil => simp [walkL]
  | cons p ps ih => rw [List.cons_append, walkL, ih, walkL]
theorem walkL_snoc (al : List Int) (ps : List S27) (j : Nat) (h : j < ps.length) (m : Mp) : walkL al (ps.take (j + 1)) m = walkT al ps[j] (walkL al (ps.take j) m) := by
  rw [List.take_succ_eq_append_getElem h, walkL_append, walkL, walkL]
structure Mp.Le (m m' : Mp) (n : Nat) : Prop where
  sets : m'.sets.length ≤ m.sets.length + n
  scs : m'.scs.length ≤ m.scs.length + n
  ars : m'.ars.length ≤ m.ars.length + n
theorem Mp.Le.trans {a b c : Mp} {i j : Nat} (h : Mp.Le a b i) (k : Mp.Le b c j) : Mp.Le a c (i + j) := ⟨by have := h.sets; have := k.sets; omega, by have := h.scs; have := k.scs; omega, by have := h.ars; have := k.ars; omega⟩
theorem mp12_le (al : List Int) (x : S27) (m : Mp) : Mp.Le m (mp2 x (mp1 al x m)) 1 := by
  unfold mp2 mp1
  split <;> split <;> refine ⟨?_, ?_, ?_⟩ <;> simp
mutual
theorem walkT_le : ∀ (al : List Int) (x : S27) (m : Mp), Mp.Le m (walkT al x m) (cntT x)
  | al, ⟨k, s, ps, lo, hi⟩, m => by
    rw [walkT, cntT]
    have h1 := mp12_le al ⟨k, s, ps, lo, hi⟩ m
    have h2 := walkL_le (al2 al ⟨k, s, ps, lo, hi⟩ m) ps (mp2 ⟨k, s, ps, lo, hi⟩ (mp1 al ⟨k, s, ps, lo, hi⟩ m))
    have h3 := h1.trans h2
    exact ⟨by have := h3.sets; omega, by have := h3.scs; omega, by have := h3.ars; omega⟩
theorem walkL_le : ∀ (al : List Int) (ps : List S27) (m : Mp), Mp.Le m (walkL al ps m) (cntL ps)
  | al, [], m => by rw [walkL]; exact ⟨by omega, by omega, by omega⟩
  | al, p :: ps, m => by
    rw [walkL, cntL]
    exact (walkT_le al p m).trans (walkL_le al ps (walkT al p m))
end
end Go.Proofs.Ytlnhiogpjdhhbaa.P
