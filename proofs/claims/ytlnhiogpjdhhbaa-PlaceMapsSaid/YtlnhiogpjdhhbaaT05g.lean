/- What calls on trees come to, told of trees. -/
import Derived.Test.YtlnhiogpjdhhbaaW05
import Derived.Test.YtlnhiogpjdhhbaaC05
namespace Go.Proofs.Ytlnhiogpjdhhbaa.P
open Go.RowKit Go.Proofs.YtlnhiogpjdhhbaaW.PrintWords Go.Proofs.YtlnhiogpjdhhbaaW.PrintLast Go.Proofs.YtlnhiogpjdhhbaaW.PrintMore
set_option linter.unusedVariables false
set_option linter.unusedSimpArgs false
structure Tr (w : World) (x : S27) (A : Option Addr) (c : Nat) : Prop where
  row : Kd.C k27 w A x.f2.length x.f2
  cap : x.f2.length ≤ c
theorem Tr.below {w w1 : World} {x : S27} {A : Option Addr} {c : Nat} (h : Tr w x A c) (hb : Below w.heap.size w w1) : Tr w1 x A c := ⟨Kd.C_below h.row hb, h.cap⟩
theorem Tr.alloc {w : World} {x : S27} {A : Option Addr} {c : Nat} (h : Tr w x A c) (o : Obj) : Tr (w.alloc o) x A c := h.below ((Below.refl _ w).alloc (Nat.le_refl _) o)
theorem Tr.nil (w : World) (k lo hi : Int) (s : S24) : Tr w ⟨k, s, [], lo, hi⟩ none 0 := ⟨Kd.C_nil _ _, Nat.le_refl _⟩
section
variable (x y : S27) (A B : Option Addr) (c d : Nat) (w : World)
theorem tr_size (m : Int) (h0 : 0 ≤ m) (h1 : m ≤ 1000000) (h : Tr w x A c) : ∃ s : Int, 1 ≤ s ∧ ((s ≤ m ∨ (cntT x : Int) ≤ m) → s = cntT x) ∧
    ∀ w, Tr w x A c → Calls Try.prog 8 #[ndV x A c, .int .i64 m] w fun e w' => e = .returned (.int .i64 s) ∧ Below w.heap.size w w' := by
  obtain ⟨s, hs, a, b, e⟩ := size_ev _ x m (Nat.lt_succ_self _) h0 h1
  obtain ⟨k, hk⟩ := hs.rounds
  exact ⟨s, a, e, fun w h => ostinatoref02_Size.calls k _ _ _ _ _ A c _ _ _ m s w h.row h.cap hk⟩
theorem tr_formed (hc : cntT x ≤ 1000000) (h : Tr w x A c) : Calls Try.prog 13 #[ndV x A c] w fun e w' => e = .returned (.bool (formedT x)) ∧ Below w.heap.size w w' := by
  obtain ⟨k, hk⟩ := (formed_ev _ x (Nat.lt_succ_self _) hc).rounds
  exact ostinatoref02_Formed.calls k _ _ _ _ _ A c _ _ _ _ w h.row h.cap hk
theorem tr_same (hc : cntT x ≤ 1000000) (h : Tr w x A c) (g : Tr w y B d) : Calls Try.prog 11 #[ndV x A c, ndV y B d] w fun e w' => e = .returned (.bool (sameT x y)) ∧ Below w.heap.size w w' := by
  obtain ⟨k, hk⟩ := (refSame_ev _ x y (Nat.lt_succ_self _) hc).rounds
  exact ostinatoref02_Same.calls k _ _ _ _ _ A c _ _ _ _ _ _ _ _ B d _ _ _ _ w h.row h.cap g.row g.cap hk
end

theorem tr_counts (x : S27) (A : Option Addr) (c : Nat) (w : World) (h : Tr w x A c) : Calls Try.prog 15 #[ndV x A c] w fun e w' => e = .returned (.tuple #[.agg #[.int .i64 (scO x).1, .int .i64 (scO x).2], .bool (ctB x)]) ∧ Below w.heap.size w w' := counts_walk x A c w
theorem empty_any (s : S24) (w : World) : Calls Try.prog 26 #[.agg #[.int .u64 s.f0, .int .u64 s.f1, .int .u64 s.f2, .int .u64 s.f3]] w fun e w' => e = .returned (.bool (emptyB s)) ∧ Below w.heap.size w w' :=
  class_Empty.calls _ _ _ _ _ w (by unfold class_Empty.f emptyB; rfl)

theorem infoI : (Try.prog.info? 3).map (fun i => (i.zero, i.size, i.bytes)) = some (some (.int .i64 0), 1, 8) := by kernel_rfl
theorem sclone_any (xs : List Value) (A : Option Addr) (c : Nat) (w : World) (hs : Sl w A c xs) (h1 : ∀ u ∈ xs, u.oneCell' = true) (hn : xs.length ≤ 2000000) :
    Calls Try.prog 27 #[.slice A xs.length c] w fun e w' => ∃ v', e = .returned v' ∧ Ow w' w.heap.size 3 v' xs ∧ Below w.heap.size w w' := by
  cases A with
  | none =>
    have h0 := hs.nil rfl
    have h1 := hs.cap
    have hl : xs = [] := List.eq_nil_of_length_eq_zero (by omega)
    subst h0 hl
    have he : ∀ w : World, (binOp .eql 42 (.slice none 0 0) (.slice none 0 0)).run Try.prog w = .ok (.bool true) w := fun _ => by kernel_rfl
    rw [show ([] : List Value).length = 0 from rfl]
    go_enter Try.func27, Try.ntmps27
    go_wp2
    go_ret
    exact ⟨_, rfl, Ow.nil _ _ _, Below.refl _ w⟩
  | some ad =>
    obtain ⟨i0, hi, hz0, hz1, hz2⟩ := info_parts infoI
    have he : ∀ w : World, (binOp .eql 42 (.slice (some ad) xs.length c) (.slice none 0 0)).run Try.prog w = .ok (.bool false) w := fun _ => by kernel_rfl
    go_enter Try.func27, Try.ntmps27
    have hown0 : Ow (w.alloc (.cells #[] 3)) w.heap.size 3 (.slice (some ⟨w.heap.size, 0, none⟩) 0 0) [] :=
      World.ownsRow_lit w #[] 0 (Nat.le_refl _) (Nat.zero_le _) rfl
    have hnew : Below w.heap.size w (w.alloc (.cells #[] 3)) := (Below.refl _ w).alloc (Nat.le_refl _) _
    go_wp2_with (at_builtin; refine wpList_append_sl _ rfl _ _ 42 rfl w.heap.size 3 i0 (.int .i64 0) 8 Try.underlying42 hi hz0 hz1 hz2 rfl (.slice (some ⟨w.heap.size, 0, none⟩) 0 0) [] rfl hown0 (some ad) c xs rfl (hs.below hnew) h1 (by simp; omega) (by omega) (by simp) ?_; intro v' w' hown hgr hblk; go_wp2)
    go_ret
    rw [List.nil_append] at hown
    exact ⟨_, rfl, hown, hnew.grown hgr (by simp) (fun k e => by simp [Value.ownBlock] at e; omega)⟩
end Go.Proofs.Ytlnhiogpjdhhbaa.P
