/- What is kept of a tree in a block; awake; the walk of PlaceCounts. -/
import Derived.Test.YtlnhiogpjdhhbaaT05o
import Derived.BigQuiet
import Derived.Lib.QuietBelow
namespace Go.Proofs.Ytlnhiogpjdhhbaa.P
open Go.RowKit Go.Proofs.YtlnhiogpjdhhbaaW.PrintWords Go.Proofs.YtlnhiogpjdhhbaaW.PrintLast Go.Proofs.YtlnhiogpjdhhbaaW.PrintMore
set_option linter.unusedVariables false
set_option linter.unusedSimpArgs false

structure Bx (q : Nat) (x : S27) (A : Option Addr) (c : Nat) (wi : World) : Prop where
  blk : wi.heap[q]? = some (.cells #[.int .i64 x.f0, .int .u64 x.f1.f0, .int .u64 x.f1.f1, .int .u64 x.f1.f2, .int .u64 x.f1.f3, .slice A x.f2.length c, .int .i64 x.f3, .int .i64 x.f4] 27)
  tr : Tr wi x A c
theorem Bx.later {q : Nat} {x : S27} {A : Option Addr} {c : Nat} {wi wj : World} (h : Bx q x A c wi) (hb : Below wi.heap.size wi wj) : Bx q x A c wj := ⟨(hb.block q (blk_lt h.blk)).trans h.blk, h.tr.below hb⟩
theorem Bx.alloc {q : Nat} {x : S27} {A : Option Addr} {c : Nat} {wi : World} (h : Bx q x A c wi) (o : Obj) : Bx q x A c (wi.alloc o) := h.later ((Below.refl _ wi).alloc (Nat.le_refl _) o)
structure St (w wi : World) : Prop where
  ext : Below w.heap.size w wi
  lt : w.heap.size ≤ wi.heap.size
theorem St.refl (w : World) : St w w := ⟨Below.refl _ w, Nat.le_refl _⟩
theorem St.later {w wi wj : World} (h : St w wi) (hb : Below wi.heap.size wi wj) : St w wj := ⟨below_step h.ext hb, Nat.le_trans h.lt hb.size⟩
theorem St.alloc {w wi : World} (h : St w wi) (o : Obj) : St w (wi.alloc o) := h.later ((Below.refl _ wi).alloc (Nat.le_refl _) o)


structure MapOut (w : World) (t : S27) (M : Mp) (At : Option Addr) (ct : Nat) (A1 : Option Addr) (c1 : Nat) (A2 : Option Addr) (c2 : Nat) (A3 : Option Addr) (c3 : Nat) : Prop where
  tr : Tr w t At ct
  ex : ∃ g base ps, MapIs w g base t At ct (.slice A1 M.sets.length c1) (.slice A2 M.scs.length c2) (.slice A3 M.ars.length c3) ps M
theorem MapOut.later {w w' : World} {t : S27} {M : Mp} {At : Option Addr} {ct : Nat} {A1 : Option Addr} {c1 : Nat} {A2 : Option Addr} {c2 : Nat} {A3 : Option Addr} {c3 : Nat} (h : MapOut w t M At ct A1 c1 A2 c2 A3 c3) (hb : Below w.heap.size w w') : MapOut w' t M At ct A1 c1 A2 c2 A3 c3 :=
  ⟨h.tr.below hb, by obtain ⟨g, b, ps, hm⟩ := h.ex; exact ⟨g, b, ps, hm.below hb⟩⟩
theorem of_fine (x : S27) (A : Option Addr) (c : Nat) (w : World) (hf : formedT x = true) (hc : cntT x ≤ 10000) (hb : bigM (ofM x) = false) (h : Tr w x A c) : Calls Try.prog 9 #[ndV x A c] w fun e w' =>
    ∃ At ct A1 c1 A2 c2 A3 c3, e = .returned (.tuple #[.agg #[.int .i64 (simpleT x).f0, .int .u64 (simpleT x).f1.f0, .int .u64 (simpleT x).f1.f1, .int .u64 (simpleT x).f1.f2, .int .u64 (simpleT x).f1.f3, .slice At (simpleT x).f2.length ct, .int .i64 (simpleT x).f3, .int .i64 (simpleT x).f4, .slice A1 (ofM x).sets.length c1, .slice A2 (ofM x).scs.length c2, .slice A3 (ofM x).ars.length c3], .int .i64 0]) ∧ MapOut w' (simpleT x) (ofM x) At ct A1 c1 A2 c2 A3 c3 ∧ Below w.heap.size w w' := by
  refine (of_ok x A c w hf hc h).mono ?_
  rintro e w' ⟨hx, hb'⟩
  obtain ⟨_, g, At, ct, v1, v2, v3, ps, rfl, htr, hm⟩ := hx.resolve_left (fun ⟨a, _⟩ => by rw [hb] at a; cases a)
  have hps : ps.length = (ofM x).ars.length := by
    have := congrArg List.length hm.lists
    simpa using this
  obtain ⟨A1, c1, rfl⟩ := row_form hm.sets
  obtain ⟨A2, c2, rfl⟩ := row_form hm.scs
  obtain ⟨A3, c3, rfl⟩ := row_form hm.ars
  rw [hps] at hm
  exact ⟨At, ct, A1, c1, A2, c2, A3, c3, by rw [hps]; rfl, ⟨htr, g, _, ps, hm⟩, hb'⟩
theorem of_long (x : S27) (A : Option Addr) (c : Nat) (w : World) (hf : formedT x = true) (hc : cntT x ≤ 10000) (hb : bigM (ofM x) = true) (h : Tr w x A c) : Calls Try.prog 9 #[ndV x A c] w fun e w' =>
    e = .returned (.tuple #[zMapV, .int .i64 3]) ∧ Below w.heap.size w w' := by
  refine (of_ok x A c w hf hc h).mono ?_
  rintro e w' ⟨hx, hb'⟩
  exact ⟨(hx.resolve_right (fun ⟨a, _⟩ => by rw [hb] at a; cases a)).2, hb'⟩

def aw : S27 := ⟨1, ⟨1, 0, 0, 0⟩, [], 0, 0⟩
theorem aw_formed : formedT aw = true := by decide +kernel
theorem aw_cnt : cntT aw ≤ 10000 := by decide +kernel
theorem aw_big : bigM (ofM aw) = false := by decide +kernel
theorem aw_sets : (ofM aw).sets.length = 2 := by decide +kernel
theorem aw_done : place_Done.f 2 3 2 = some true := by decide +kernel
theorem awake_any (w : World) : Calls Try.prog 7 #[] w fun e w' => e = .returned (.bool true) ∧ Below w.heap.size w w' := by
  have h := fun w => of_fine aw none 0 w aw_formed aw_cnt aw_big (Tr.nil w _ _ _ _)
  have hd := fun w => place_Done.calls 2 3 2 true w aw_done
  rw [aw_sets] at h
  unfold ndV at h
  go_enter Try.func7, Try.ntmps7
  go_wp2_with fail
  refine (h _).mono ?_
  rintro e w1 ⟨At, ct, A1, c1, A2, c2, A3, c3, rfl, _, hb1⟩
  clear h
  go_wp2_with fail
  refine (hd _).mono ?_
  rintro e w2 ⟨rfl, hb2⟩
  go_wp2
  go_ret
  exact ⟨rfl, below_step (hb1.alloc hb1.size _) hb2⟩
end Go.Proofs.Ytlnhiogpjdhhbaa.P
