/- What calls on trees come to, told of trees. -/
import Derived.Test.YtgcgijmjlnhdnaaT04e
import Derived.Test.YtgcgijmjlnhdnaaU04s
namespace Go.Proofs.Ytgcgijmjlnhdnaa.P
open Go.RowKit Go.Proofs.YtgcgijmjlnhdnaaW.PrintWords Go.Proofs.YtgcgijmjlnhdnaaW.PrintLast Go.Proofs.YtgcgijmjlnhdnaaW.PrintMore
set_option linter.unusedVariables false
set_option linter.unusedSimpArgs false
/-- A tree's parts lie in the world. -/
structure Tr (w : World) (x : S27) (A : Option Addr) (c : Nat) : Prop where
  row : Kd.C k27 w A x.f2.length x.f2
  cap : x.f2.length ≤ c
theorem Tr.below {w w1 : World} {x : S27} {A : Option Addr} {c : Nat} (h : Tr w x A c) (hb : Below w.heap.size w w1) : Tr w1 x A c := ⟨Kd.C_below h.row hb, h.cap⟩
theorem Tr.alloc {w : World} {x : S27} {A : Option Addr} {c : Nat} (h : Tr w x A c) (o : Obj) : Tr (w.alloc o) x A c := h.below ((Below.refl _ w).alloc (Nat.le_refl _) o)
theorem Tr.nil (w : World) (k lo hi : Int) (s : S24) : Tr w ⟨k, s, [], lo, hi⟩ none 0 := ⟨Kd.C_nil _ _, Nat.le_refl _⟩
/-- A tree's cells. -/
def nC (x : S27) (A : Option Addr) (c : Nat) : List Value := [.int .i64 x.f0, .int .u64 x.f1.f0, .int .u64 x.f1.f1, .int .u64 x.f1.f2, .int .u64 x.f1.f3, .slice A x.f2.length c, .int .i64 x.f3, .int .i64 x.f4]
theorem C_lit {w : World} {ps : List S27} {inner : List Value} (e : TypeId) (h : Reps (k27.K (w.alloc (.cells inner.toArray e))) 8 ps inner) (hm : ps.length ≤ 9223372036854775807) :
    Kd.C k27 (w.alloc (.cells inner.toArray e)) (some ⟨w.heap.size, 0, none⟩) ps.length ps := by
  refine ⟨rfl, hm, fun _ => ⟨_, rfl, fun j p hj => ⟨(inner.drop (j * 8)).take 8, ?_, h.2 j p hj, fun i u hu => ?_⟩⟩⟩
  · have hlt : j < ps.length := (List.getElem?_eq_some_iff.1 hj).1
    rw [List.length_take, List.length_drop, h.1]
    show min 8 (ps.length * 8 - j * 8) = 8
    omega
  · rw [add_plain]
    have e2 : inner[j * 8 + i]? = some u := by
      have hi : i < 8 := by
        have := (List.getElem?_eq_some_iff.1 hu).1
        rw [List.length_take] at this
        omega
      rw [List.getElem?_take, if_pos hi, List.getElem?_drop] at hu
      exact hu
    show (w.alloc (.cells inner.toArray e)).cell? ⟨w.heap.size, j * 8 + i, none⟩ = some u
    rw [blk_cell (heap_alloc_new w _) (j * 8 + i)]
    simpa using e2
theorem Tr.lit1 {w : World} {x : S27} {A : Option Addr} {c : Nat} (h : Tr w x A c) (e : TypeId) (k lo hi : Int) (s : S24) : Tr (w.alloc (.cells (nC x A c).toArray e)) ⟨k, s, [x], lo, hi⟩ (some ⟨w.heap.size, 0, none⟩) 1 := by
  refine ⟨C_lit (ps := [x]) e ?_ (by simp), by simp⟩
  have hx := h.alloc (.cells (nC x A c).toArray e)
  exact Reps.c8 (k27_mk _ x hx.cap hx.row) (Reps.none _ _)
theorem Tr.lit2 {w : World} {x y : S27} {A B : Option Addr} {c d : Nat} (h : Tr w x A c) (g : Tr w y B d) (e : TypeId) (k lo hi : Int) (s : S24) : Tr (w.alloc (.cells (nC x A c ++ nC y B d).toArray e)) ⟨k, s, [x, y], lo, hi⟩ (some ⟨w.heap.size, 0, none⟩) 2 := by
  refine ⟨C_lit (ps := [x, y]) e ?_ (by simp), by simp⟩
  have hx := h.alloc (.cells (nC x A c ++ nC y B d).toArray e)
  have hy := g.alloc (.cells (nC x A c ++ nC y B d).toArray e)
  exact Reps.c8 (k27_mk _ x hx.cap hx.row) (Reps.c8 (k27_mk _ y hy.cap hy.row) (Reps.none _ _))
section
variable (x y : S27) (A B : Option Addr) (c d : Nat) (w : World)
theorem tr_awake : Calls Try.prog 8 #[] w fun e w' => e = .returned (.bool true) ∧ Below w.heap.size w w' := by
  obtain ⟨k, hk⟩ := awake_ev.rounds
  exact ostinatolaw04_awake.calls k true w hk
theorem tr_size (m : Int) (h0 : 0 ≤ m) (h1 : m ≤ 1000000) (h : Tr w x A c) : ∃ s : Int, 1 ≤ s ∧ ((s ≤ m ∨ (cntT x : Int) ≤ m) → s = cntT x) ∧
    ∀ w, Tr w x A c → Calls Try.prog 9 #[ndV x A c, .int .i64 m] w fun e w' => e = .returned (.int .i64 s) ∧ Below w.heap.size w w' := by
  obtain ⟨s, hs, a, b, e⟩ := size_ev _ x m (Nat.lt_succ_self _) h0 h1
  obtain ⟨k, hk⟩ := hs.rounds
  exact ⟨s, a, e, fun w h => ostinatoref02_Size.calls k _ _ _ _ _ A c _ _ _ m s w h.row h.cap hk⟩
theorem tr_formed (hc : cntT x ≤ 1000000) (h : Tr w x A c) : Calls Try.prog 11 #[ndV x A c] w fun e w' => e = .returned (.bool (formedT x)) ∧ Below w.heap.size w w' := by
  obtain ⟨k, hk⟩ := (formed_ev _ x (Nat.lt_succ_self _) hc).rounds
  exact ostinatoref02_Formed.calls k _ _ _ _ _ A c _ _ _ _ w h.row h.cap hk
theorem tr_same (hc : cntT x ≤ 1000000) (h : Tr w x A c) (g : Tr w y B d) : Calls Try.prog 12 #[ndV x A c, ndV y B d] w fun e w' => e = .returned (.bool (sameT x y)) ∧ Below w.heap.size w w' := by
  obtain ⟨k, hk⟩ := (refSame_ev _ x y (Nat.lt_succ_self _) hc).rounds
  exact ostinatoref02_Same.calls k _ _ _ _ _ A c _ _ _ _ _ _ _ _ B d _ _ _ _ w h.row h.cap g.row g.cap hk
theorem tr_void (h : Tr w x A c) : Calls Try.prog 14 #[ndV x A c] w fun e w' => e = .returned (.bool (formedT x && voidT x)) ∧ Below w.heap.size w w' :=
  core_Void.calls _ _ _ _ _ A c _ _ _ _ w h.row h.cap (Void_eq x)
theorem tr_null (h : Tr w x A c) : Calls Try.prog 15 #[ndV x A c] w fun e w' => e = .returned (.bool (formedT x && nullT x)) ∧ Below w.heap.size w w' :=
  core_Nullable.calls _ _ _ _ _ A c _ _ _ _ w h.row h.cap (Nullable_eq x)
theorem tr_simple (hf : formedT x = true) (hc : cntT x ≤ 1000000) (h : Tr w x A c) : Calls Try.prog 10 #[ndV x A c] w fun e w' =>
    ∃ A' c', e = .returned (.tuple #[ndV (simpleT x) A' c', .int .i64 0]) ∧ Tr w' (simpleT x) A' c' ∧ Below w.heap.size w w' := by
  obtain ⟨k, hk⟩ := (Simple_ev x hc hf).rounds
  refine (core_Simple.calls k _ _ _ _ _ (fun k => k < w.heap.size) A c _ _ _ _ _ _ _ _ _ _ _ _ w (Kd.V_mk h.cap (Kd.C_F k27_heap h.row)) hk).mono ?_
  rintro e w' ⟨v5, rfl, ⟨A', c', rfl, hl, hF⟩, hb⟩
  exact ⟨A', c', rfl, ⟨Kd.F_now hF, hl⟩, hb⟩
end
end Go.Proofs.Ytgcgijmjlnhdnaa.P
