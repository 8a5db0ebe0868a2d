import Derived.Test.YtlnhiogpjdhhbaaPx0
import Derived.Test.YtlnhiogpjdhhbaaPx2
import Derived.Test.YtlnhiogpjdhhbaaPx3
-- Written by wip/xp.
namespace Go.Proofs.Ytlnhiogpjdhhbaa.P
open Go.RowKit Go.Proofs.YtlnhiogpjdhhbaaW.PrintWords Go.Proofs.YtlnhiogpjdhhbaaW.PrintLast Go.Proofs.YtlnhiogpjdhhbaaW.PrintMore
open Go.Proofs.YtlnhiogpjdhhbaaW.PrintWords renaming below_step → zA
open Go.Proofs.YtlnhiogpjdhhbaaW.PrintWords.Aside0 renaming mk → zB
attribute [local go_sem] max2_int min2_int max_two min_two max_three min_three max_four min_four   -- for this text's walks alone
set_option linter.unusedVariables false
set_option linter.unusedSimpArgs false

theorem mem_lt {t x : S27} (h : x ∈ t.f2) : SizeOf.sizeOf x < SizeOf.sizeOf t := by
  obtain ⟨a, b, c, d, e⟩ := t
  have h1 : SizeOf.sizeOf x < SizeOf.sizeOf c := List.sizeOf_lt_of_mem h
  simp only [S27.mk.sizeOf_spec]
  omega
def ndV (x : S27) (A : Option Addr) (c : Nat) : Value := .agg #[.int .i64 x.f0, .int .u64 x.f1.f0, .int .u64 x.f1.f1, .int .u64 x.f1.f2, .int .u64 x.f1.f3, .slice A x.f2.length c, .int .i64 x.f3, .int .i64 x.f4]
def PredN (g : Nat) (lb : Array Value) (p : S27 → Bool) (xs : List S27) (w : World) : Prop :=
  ∀ x ∈ xs, ∀ (A5 : Option Addr) (c5 : Nat) (W : World), Below w.heap.size w W → Kd.C k27 W A5 x.f2.length x.f2 → x.f2.length ≤ c5 →
    Calls Try.prog g (#[ndV x A5 c5] ++ lb) W fun e w' => e = .returned (.bool (p x)) ∧ Below W.heap.size W w'
def idxP (p : S27 → Bool) (xs : List S27) : Int := if xs.any p then (xs.findIdx p : Nat) else -1
theorem idxP_any (p : S27 → Bool) (xs : List S27) : decide (idxP p xs ≥ 0) = xs.any p := by
  unfold idxP; cases xs.any p <;> simp
theorem idxP_hit (p : S27 → Bool) (xs : List S27) (k : Nat) (x : S27) (hk : xs[k]? = some x) (hx : p x = true) (h : (xs.take k).any p = false) : idxP p xs = k := by
  obtain ⟨hl, rfl⟩ := List.getElem?_eq_some_iff.1 hk
  have ha : xs.any p = true := List.any_eq_true.2 ⟨_, List.getElem_mem hl, hx⟩
  have hf : xs.findIdx p = k := by
    rw [List.findIdx_eq hl]
    refine ⟨hx, fun j hj => ?_⟩
    have := List.any_eq_false.1 h xs[j] (by rw [List.mem_take_iff_getElem]; exact ⟨j, by omega, rfl⟩)
    simpa using this
  simp [idxP, ha, hf]
theorem take_any_succ (p : S27 → Bool) (xs : List S27) (k : Nat) (x : S27) (hk : xs[k]? = some x) : (xs.take (k + 1)).any p = ((xs.take k).any p || p x) := by
  rw [List.take_add_one, hk]; simp
set_option maxHeartbeats 2000000 in
theorem idx_any (g : Nat) (lb : Array Value) (p : S27 → Bool) (eg : ∀ args w, (callFunc g args).run Try.prog w = .ok (.enter g args) w) (A : Option Addr) (c : Nat) (xs : List S27) (w : World)
    (hr : Kd.C k27 w A xs.length xs) (hp : PredN g lb p xs w) :
    Calls Try.prog 38 #[.slice A xs.length c, .func (.func g) #[] lb] w fun e w' => e = .returned (.int .i64 (idxP p xs)) ∧ Below w.heap.size w w' := by
  have hmax := Kd.C_max hr
  have HR := zB hr
  have HP := zB hp
  clear hr hp
  go_enter Try.func38, Try.ntmps38
  go_wp2
  go_loopg [5, 8] xs.length (fun gg _ s8 wr => ∃ kk : Nat, kk ≤ xs.length ∧ xs.length - kk ≤ gg ∧ s8 = .int .i64 kk ∧ Aside0 (Below w.heap.size w wr) ∧ Aside0 ((xs.take kk).any p = false))
  case atStart => exact ⟨0, Nat.zero_le _, by omega, rfl, ⟨Below.refl _ w⟩, ⟨by simp⟩⟩
  case round =>
    obtain ⟨kk, hkk, hg, rfl, BW, HA⟩ := hrel
    by_cases hlt : kk < xs.length
    · have hltz : (kk : Int) < (xs.length : Int) := by omega
      obtain ⟨ad, A5, c5, e0, h0, h1, h2, h3, h4, h5, h6, h7, hl5, hi5⟩ := at_T27 (Kd.C_below HR.out BW.out) (kk : Int) (by omega) hltz
      cases e0
      simp only [Int.toNat_natCast] at h0 h1 h2 h3 h4 h5 h6 h7
      have hget : xs[kk]? = some (rd_T27 xs kk) := by simp [rd_T27, List.getD_eq_getElem?_getD, List.getElem?_eq_getElem hlt]
      have hcall := HP.out (rd_T27 xs kk) (List.mem_of_getElem? hget) A5 c5 wr BW.out hi5 hl5
      unfold ndV at hcall
      generalize hy : rd_T27 xs kk = y at h0 h1 h2 h3 h4 h5 h6 h7 hl5 hcall hget
      have HG := zB hget
      clear hget hy hi5 hl5
      cases hq : p y with
      | true =>
        rw [hq] at hcall
        have HQ := zB hq
        clear hq
        go_wp2_with (go_at_fn g; refine hcall.mono ?_; rintro e w' ⟨rfl, hb'⟩)
        go_ret
        exact ⟨congrArg (fun z : Int => Ending.returned (.int .i64 z)) (idxP_hit p xs kk y HG.out HQ.out HA.out).symm, zA BW.out hb'⟩
      | false =>
        rw [hq] at hcall
        have HQ := zB hq
        clear hq
        go_wp2_with (go_at_fn g; refine hcall.mono ?_; rintro e w' ⟨rfl, hb'⟩)
        go_roundg (xs.length - (kk + 1))
        case measure => omega
        case rel => exact ⟨kk + 1, by omega, by omega, by go_num, ⟨zA BW.out hb'⟩, ⟨by rw [take_any_succ p xs kk y HG.out, HA.out, HQ.out]; rfl⟩⟩
    · have hltz : ¬ (kk : Int) < (xs.length : Int) := by omega
      have hk : kk = xs.length := by omega
      have HK := zB hk
      clear hk
      go_wp2
      go_ret
      refine ⟨?_, BW.out⟩
      have h := HA.out
      rw [HK.out, List.take_length] at h
      simp [idxP, h]
theorem contains_any (g : Nat) (lb : Array Value) (p : S27 → Bool) (eg : ∀ args w, (callFunc g args).run Try.prog w = .ok (.enter g args) w) (A : Option Addr) (c : Nat) (xs : List S27) (w : World)
    (hr : Kd.C k27 w A xs.length xs) (hp : PredN g lb p xs w) :
    Calls Try.prog 30 #[.slice A xs.length c, .func (.func g) #[] lb] w fun e w' => e = .returned (.bool (xs.any p)) ∧ Below w.heap.size w w' := by
  rw [← idxP_any p xs]
  have hi := idx_any g lb p eg A c xs w hr hp
  clear hr hp
  go_enter Try.func30, Try.ntmps30
  go_wp2_with (go_at_call 38; refine hi.mono ?_; rintro e w' ⟨rfl, hb'⟩)
  go_ret
  exact ⟨rfl, hb'⟩

def emptyB (c : S24) : Bool := c.f0 == 0 && (c.f1 == 0 && (c.f2 == 0 && c.f3 == 0))
def shapedB (x : S27) : Bool :=
  if x.f0 = 0 then (x.f3 == 0 && x.f4 == 0) && emptyB x.f1 && x.f2.length == 0
  else if x.f0 = 1 then (x.f3 == 0 && x.f4 == 0) && x.f2.length == 0
  else if x.f0 = 2 ∨ x.f0 = 3 then (x.f3 == 0 && x.f4 == 0) && emptyB x.f1 && decide (2 ≤ x.f2.length)
  else if x.f0 = 4 then emptyB x.f1 && x.f2.length == 1 && decide (0 ≤ x.f3) && decide (x.f3 ≤ 2147483647) && (x.f4 == -1 || decide (x.f3 ≤ x.f4) && decide (x.f4 ≤ 2147483647))
  else false
theorem shaped_eq (x : S27) : syntax_shaped.f 3 x.f0 x.f1.f0 x.f1.f1 x.f1.f2 x.f1.f3 x.f2 x.f3 x.f4 = some (shapedB x) := by
  obtain ⟨a, ⟨c0, c1, c2, c3⟩, ps, lo, hi⟩ := x
  simp only [syntax_shaped.f, syntax_shaped.j0, syntax_shaped.j1, class_Empty.f, shapedB, emptyB, Option.bind_some]
  have e0 : ((ps.length : Int) == 0) = (ps.length == 0) := by rw [Bool.eq_iff_iff]; simp
  have e2 : decide ((ps.length : Int) ≥ 2) = decide (2 ≤ ps.length) := by rw [Bool.eq_iff_iff]; simp; omega
  have e1 : ((ps.length : Int) = 1) ↔ (ps.length = 1) := by omega
  rw [e0, e2]
  by_cases k0 : a = 0
  · subst k0; by_cases h3 : lo = 0 <;> by_cases h4 : hi = 0 <;> cases hE : (c0 == 0 && (c1 == 0 && (c2 == 0 && c3 == 0))) <;> simp [h3, h4]
  · by_cases k1 : a = 1
    · subst k1; by_cases h3 : lo = 0 <;> by_cases h4 : hi = 0 <;> simp [h3, h4]
    · by_cases k2 : a = 2
      · subst k2; by_cases h3 : lo = 0 <;> by_cases h4 : hi = 0 <;> cases hE : (c0 == 0 && (c1 == 0 && (c2 == 0 && c3 == 0))) <;> simp [h3, h4]
      · by_cases k3 : a = 3
        · subst k3; by_cases h3 : lo = 0 <;> by_cases h4 : hi = 0 <;> cases hE : (c0 == 0 && (c1 == 0 && (c2 == 0 && c3 == 0))) <;> simp [h3, h4]
        · by_cases k4 : a = 4
          · subst k4
            cases hE : (c0 == 0 && (c1 == 0 && (c2 == 0 && c3 == 0)))
            · by_cases h3 : lo = 0 <;> simp [h3]
            · by_cases h3 : lo = 0
              · subst h3
                by_cases g2 : hi = -1
                · subst g2; by_cases l1 : ps.length = 1 <;> simp [e1, l1]
                · by_cases l1 : ps.length = 1 <;> by_cases g3 : 0 ≤ hi <;> by_cases g4 : hi ≤ 2147483647 <;> simp [e1, l1, g2, g3, g4]
              · by_cases g2 : hi = -1
                · subst g2; by_cases l1 : ps.length = 1 <;> by_cases g0 : 0 ≤ lo <;> by_cases g1 : lo ≤ 2147483647 <;> simp [e1, h3, l1, g0, g1]
                · by_cases l1 : ps.length = 1 <;> by_cases g0 : 0 ≤ lo <;> by_cases g1 : lo ≤ 2147483647 <;> by_cases g3 : lo ≤ hi <;> by_cases g4 : hi ≤ 2147483647 <;> simp [e1, h3, l1, g0, g1, g2, g3, g4]
          · by_cases h3 : lo = 0 <;> simp [k0, k1, k2, k3, k4, h3]
mutual
def formedT : S27 → Bool
  | ⟨k, s, ps, lo, hi⟩ => shapedB ⟨k, s, ps, lo, hi⟩ && formedL ps
def formedL : List S27 → Bool
  | [] => true
  | p :: ps => formedT p && formedL ps
end
theorem formedL_all (l : List S27) : formedL l = !(l.any fun x => !formedT x) := by
  induction l with
  | nil => simp [formedL]
  | cons p l ih => rw [formedL, ih]; simp
theorem formedT_eq (x : S27) : formedT x = (shapedB x && !(x.f2.any fun y => !formedT y)) := by
  cases x; rw [formedT, formedL_all]
def syntax_Formed.f (a0_0 a0_1 a0_2 a0_3 a0_4 : Int) (l0_5 : List S27) (a0_6 a0_7 : Int) : Option Bool := some (formedT ⟨a0_0, ⟨a0_1, a0_2, a0_3, a0_4⟩, l0_5, a0_6, a0_7⟩)
theorem enF1 : Enters Try.prog 31 := enters_of Try.func31 (by kernel_rfl) rfl
set_option maxHeartbeats 2000000 in
set_option maxRecDepth 100000 in
theorem formed_any (n : Nat) : ∀ (x : S27) (A5 : Option Addr) (c5 : Nat) (w : World), SizeOf.sizeOf x < n → Kd.C k27 w A5 x.f2.length x.f2 → x.f2.length ≤ c5 →
    Calls Try.prog 22 #[ndV x A5 c5] w fun e w' => e = .returned (.bool (formedT x)) ∧ Below w.heap.size w w' := by
  induction n with
  | zero => intro x A5 c5 w h; omega
  | succ n ih =>
    intro x A5 c5 w hn hr hc
    have HR := zB hr
    have HS := zB hn
    have hcn : ∀ W, Below w.heap.size w W → Calls Try.prog 30 #[.slice A5 x.f2.length c5, .func (.func 31) #[] #[]] W fun e w' => e = .returned (.bool (x.f2.any fun y => !formedT y)) ∧ Below W.heap.size W w' := by
      intro W hW
      refine contains_any 31 #[] (fun y => !formedT y) enF1 A5 c5 x.f2 W (Kd.C_below HR.out hW) ?_
      intro y hy B5 d5 V hV hry hcy
      have hi : ∀ U, Below V.heap.size V U → Calls Try.prog 22 #[ndV y B5 d5] U fun e w' => e = .returned (.bool (formedT y)) ∧ Below U.heap.size U w' :=
        fun U hU => ih y B5 d5 U (by have := mem_lt hy; have := HS.out; omega) (Kd.C_below hry hU) hcy
      unfold ndV at hi ⊢
      have HI := zB hi
      clear hi hry hcy hV hW
      go_enter Try.func31, Try.ntmps31
      go_wp2_with (go_at_call 22; refine (HI.out _ ((Below.refl _ _).alloc (Nat.le_refl _) _)).mono ?_; rintro e w' ⟨rfl, hb'⟩)
      go_ret
      exact ⟨rfl, zA ((Below.refl _ _).alloc (Nat.le_refl _) _) hb'⟩
    have HCN := zB hcn
    have hsh : ∀ W, Below w.heap.size w W → Calls Try.prog 29 #[ndV x A5 c5] W fun e w' => e = .returned (.bool (shapedB x)) ∧ Below W.heap.size W w' := fun W hW =>
      syntax_shaped.calls 3 _ _ _ _ _ A5 c5 _ _ _ _ W (Kd.C_below HR.out hW) hc (shaped_eq x)
    unfold ndV at hsh ⊢
    have HSH := zB hsh
    have HE := zB (formedT_eq x)
    clear hr hn hcn hsh ih
    cases hs : shapedB x with
    | false =>
      rw [hs] at HSH HE
      clear hs
      go_enter Try.func22, Try.ntmps22
      go_wp2_with (go_at_call 29; refine (HSH.out _ ((Below.refl _ _).alloc (Nat.le_refl _) _)).mono ?_; rintro e w' ⟨rfl, hb'⟩)
      go_ret
      exact ⟨by rw [HE.out]; rfl, zA ((Below.refl _ _).alloc (Nat.le_refl _) _) hb'⟩
    | true =>
      rw [hs] at HSH HE
      clear hs
      go_enter Try.func22, Try.ntmps22
      go_wp2_with (first
        | (go_at_call 29; refine (HSH.out _ ((Below.refl _ _).alloc (Nat.le_refl _) _)).mono ?_; rintro e w1 ⟨rfl, hb1⟩; have hcell := (hb1.cell (p := ⟨w.heap.size, 5, none⟩) (by simp)).trans (show _ = some (.slice A5 x.f2.length c5) by simp [go_sem]))
        | (go_at_call 30; refine (HCN.out _ (zA ((Below.refl _ _).alloc (Nat.le_refl _) _) hb1)).mono ?_; rintro e w2 ⟨rfl, hb2⟩))
      go_ret
      exact ⟨by rw [HE.out]; rfl, zA (zA ((Below.refl _ _).alloc (Nat.le_refl _) _) hb1) hb2⟩
theorem syntax_Formed.calls (a0_0 : Int) (a0_1 : Int) (a0_2 : Int) (a0_3 : Int) (a0_4 : Int) (A0_5 : Option Addr) (c0_5 : Nat) (l0_5 : List S27) (a0_6 : Int) (a0_7 : Int) (r : Bool) (w : World) (hr0_5 : Kd.C k27 w A0_5 l0_5.length l0_5) (hc0_5 : l0_5.length ≤ c0_5) (h : syntax_Formed.f a0_0 a0_1 a0_2 a0_3 a0_4 l0_5 a0_6 a0_7 = some r) :
    Calls Try.prog 22 #[.agg #[.int .i64 a0_0, .int .u64 a0_1, .int .u64 a0_2, .int .u64 a0_3, .int .u64 a0_4, .slice A0_5 l0_5.length c0_5, .int .i64 a0_6, .int .i64 a0_7]] w fun e w' => e = .returned (.bool r) ∧ Below w.heap.size w w' := by
  obtain rfl := Option.some.inj h
  exact formed_any _ ⟨a0_0, ⟨a0_1, a0_2, a0_3, a0_4⟩, l0_5, a0_6, a0_7⟩ A0_5 c0_5 w (Nat.lt_succ_self _) hr0_5 hc0_5


end Go.Proofs.Ytlnhiogpjdhhbaa.P
