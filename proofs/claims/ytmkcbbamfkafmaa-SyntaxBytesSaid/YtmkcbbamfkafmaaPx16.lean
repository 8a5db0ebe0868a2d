-- Written by a program of this project (wip/xp over the words of the print), not by hand.
import Derived.Test.YtmkcbbamfkafmaaPx0
import Derived.Test.YtmkcbbamfkafmaaPx1
import Derived.Test.YtmkcbbamfkafmaaPx11
namespace Go.Proofs.Ytmkcbbamfkafmaa.P
open Go.RowKit Go.Proofs.YtmkcbbamfkafmaaW.PrintWords Go.Proofs.YtmkcbbamfkafmaaW.PrintLast Go.Proofs.YtmkcbbamfkafmaaW.PrintMore
attribute [local go_sem] max2_int min2_int max_two min_two max_three min_three max_four min_four   -- for this text's walks alone
set_option linter.unusedVariables false
set_option linter.unusedSimpArgs false

/-! ### syntax_Same: function 22 -/
/-! The same trees. -/
theorem box_belowS (w : World) (o : Obj) : Below w.heap.size w (w.alloc o) := (Below.refl _ _).alloc (Nat.le_refl _) _
theorem ndV_mkS (k s0 s1 s2 s3 lo hi : Int) (ps : List S28) (A : Option Addr) (c : Nat) : ndV ⟨k, ⟨s0, s1, s2, s3⟩, ps, lo, hi⟩ A c = .agg #[.int .i64 k, .int .u64 s0, .int .u64 s1, .int .u64 s2, .int .u64 s3, .slice A ps.length c, .int .i64 lo, .int .i64 hi] := rfl
mutual
def sameT : S28 → S28 → Bool
  | ⟨k, s, ps, lo, hi⟩, y => k == y.f0 && (s.f0 == y.f1.f0 && (s.f1 == y.f1.f1 && (s.f2 == y.f1.f2 && s.f3 == y.f1.f3))) && lo == y.f3 && hi == y.f4 && sameL ps y.f2
def sameL : List S28 → List S28 → Bool
  | [], l => l.isEmpty
  | p :: ps, l => match l with
    | [] => false
    | q :: qs => sameT p q && sameL ps qs
end
mutual
theorem sameT_iff : ∀ (x y : S28), sameT x y = true ↔ x = y
  | ⟨k, ⟨s0, s1, s2, s3⟩, ps, lo, hi⟩, ⟨k', ⟨t0, t1, t2, t3⟩, qs, lo', hi'⟩ => by
    rw [sameT]
    simp only [Bool.and_eq_true, beq_iff_eq, sameL_iff ps qs, S28.mk.injEq, S25.mk.injEq]
    constructor
    · rintro ⟨⟨⟨⟨a, b⟩, c⟩, d⟩, e⟩; exact ⟨a, b, e, c, d⟩
    · rintro ⟨a, b, e, c, d⟩; exact ⟨⟨⟨⟨a, b⟩, c⟩, d⟩, e⟩
theorem sameL_iff : ∀ (x y : List S28), sameL x y = true ↔ x = y
  | [], l => by cases l <;> simp [sameL]
  | p :: ps, l => by
    cases l with
    | nil => simp [sameL]
    | cons q qs => rw [sameL]; simp only [Bool.and_eq_true, sameT_iff p q, sameL_iff ps qs, List.cons.injEq]
end
theorem sameL_miss (xs ys : List S28) (k : Nat) (x y : S28) (hx : xs[k]? = some x) (hy : ys[k]? = some y) (h : sameT x y = false) : sameL xs ys = false := by
  rw [Bool.eq_false_iff, Ne, sameL_iff]
  rintro rfl
  rw [hx] at hy
  injection hy with hy
  rw [(sameT_iff x y).2 hy] at h
  cases h
theorem sameL_len (xs ys : List S28) (h : ¬ xs.length = ys.length) : sameL xs ys = false := by
  rw [Bool.eq_false_iff, Ne, sameL_iff]
  rintro rfl
  exact h rfl
theorem sameL_take (xs ys : List S28) (k : Nat) (x y : S28) (hx : xs[k]? = some x) (hy : ys[k]? = some y) (h : xs.take k = ys.take k) (hs : sameT x y = true) : xs.take (k + 1) = ys.take (k + 1) := by
  rw [List.take_add_one, List.take_add_one, h, hx, hy, (sameT_iff x y).1 hs]
theorem enS : Enters Try.prog 22 := enters_of Try.func22 (by kernel_rfl) rfl
set_option maxHeartbeats 4000000 in
theorem eqf_any (A B : Option Addr) (c d : Nat) (xs ys : List S28) (w : World) (hr : Kd.C k28 w A xs.length xs) (hs : Kd.C k28 w B ys.length ys)
    (hp : ∀ x ∈ xs, ∀ (y : S28) (A5 B5 : Option Addr) (c5 d5 : Nat) (W : World), Kd.C k28 W A5 x.f2.length x.f2 → x.f2.length ≤ c5 → Kd.C k28 W B5 y.f2.length y.f2 → y.f2.length ≤ d5 →
      Calls Try.prog 22 #[ndV x A5 c5, ndV y B5 d5] W fun e w' => e = .returned (.bool (sameT x y)) ∧ Below W.heap.size W w') :
    Calls Try.prog 34 #[.slice A xs.length c, .slice B ys.length d, .func (.func 22) #[] #[]] w fun e w' => e = .returned (.bool (sameL xs ys)) ∧ Below w.heap.size w w' := by
  have hmax := Kd.C_max hr
  have hmay := Kd.C_max hs
  have HR := Aside0.mk hr
  have HY := Aside0.mk hs
  have HP := Aside0.mk hp
  have eg := enS
  clear hr hs hp
  by_cases hlen : xs.length = ys.length
  · have HL := Aside0.mk hlen
    have e0 : ((xs.length : Int) != (ys.length : Int)) = false := by simp [hlen]
    have e1 : (xs.length == ys.length) = true := by simp [hlen]
    have hly : xs.length ≤ ys.length := by omega
    clear hlen
    go_enter Try.func34, Try.ntmps34
    go_wp2
    clear e0 e1
    go_loopg [7, 8, 9, 17] xs.length (fun gg _ _ _ s17 wr => ∃ kk : Nat, kk ≤ xs.length ∧ xs.length - kk ≤ gg ∧ s17 = .int .i64 kk ∧ Aside0 (Below w.heap.size w wr) ∧ Aside0 (xs.take kk = ys.take kk))
    case atStart => exact ⟨0, Nat.zero_le _, by omega, rfl, ⟨Below.refl _ w⟩, ⟨by simp⟩⟩
    case round =>
      obtain ⟨kk, hkk, hg, rfl, BW, HA⟩ := hrel
      by_cases hlt : kk < xs.length
      · have hltz : (kk : Int) < (xs.length : Int) := by omega
        have hlty : (kk : Int) < (ys.length : Int) := by omega
        obtain ⟨ad, A5, c5, e0, h0, h1, h2, h3, h4, h5, h6, h7, hl5, hi5⟩ := at_T28 (Kd.C_below HR.out BW.out) (kk : Int) (by omega) hltz
        cases e0
        obtain ⟨bd, B5, d5, e0, k0, k1, k2, k3, k4, k5, k6, k7, kl5, ki5⟩ := at_T28 (Kd.C_below HY.out BW.out) (kk : Int) (by omega) hlty
        cases e0
        simp only [Int.toNat_natCast] at h0 h1 h2 h3 h4 h5 h6 h7 k0 k1 k2 k3 k4 k5 k6 k7
        have hget : xs[kk]? = some (rd_T28 xs kk) := by simp [rd_T28, List.getD_eq_getElem?_getD, List.getElem?_eq_getElem hlt]
        have kget : ys[kk]? = some (rd_T28 ys kk) := by simp [rd_T28, List.getD_eq_getElem?_getD, List.getElem?_eq_getElem (show kk < ys.length by omega)]
        have hcall := fun (U : World) (hU : Below wr.heap.size wr U) => HP.out (rd_T28 xs kk) (List.mem_of_getElem? hget) (rd_T28 ys kk) A5 B5 c5 d5 U (Kd.C_below hi5 hU) hl5 (Kd.C_below ki5 hU) kl5
        unfold ndV at hcall
        generalize rd_T28 xs kk = x at h0 h1 h2 h3 h4 h5 h6 h7 hl5 hcall hget
        generalize rd_T28 ys kk = y at k0 k1 k2 k3 k4 k5 k6 k7 kl5 hcall kget
        have HG := Aside0.mk hget
        have HK := Aside0.mk kget
        have HC := Aside0.mk hcall
        clear hget kget hi5 ki5 hl5 kl5 hcall
        have g0 := fun o : Obj => ((box_belowS wr o).cell (World.block_lt_of_cell? wr _ k0)).trans k0; have g1 := fun o : Obj => ((box_belowS wr o).cell (World.block_lt_of_cell? wr _ k1)).trans k1; have g2 := fun o : Obj => ((box_belowS wr o).cell (World.block_lt_of_cell? wr _ k2)).trans k2; have g3 := fun o : Obj => ((box_belowS wr o).cell (World.block_lt_of_cell? wr _ k3)).trans k3; have g4 := fun o : Obj => ((box_belowS wr o).cell (World.block_lt_of_cell? wr _ k4)).trans k4; have g5 := fun o : Obj => ((box_belowS wr o).cell (World.block_lt_of_cell? wr _ k5)).trans k5; have g6 := fun o : Obj => ((box_belowS wr o).cell (World.block_lt_of_cell? wr _ k6)).trans k6; have g7 := fun o : Obj => ((box_belowS wr o).cell (World.block_lt_of_cell? wr _ k7)).trans k7
        clear k0 k1 k2 k3 k4 k5 k6 k7
        have HQ := Aside0.mk (show ∀ b, sameT x y = b → sameT x y = b from fun _ h => h)
        cases hq : sameT x y with
        | false =>
          rw [hq] at HC
          have HQ := Aside0.mk hq
          clear hq
          go_wp2_with (go_at_call 22; refine (HC.out _ (Below.alloc (box_belowS _ _) (by simp) _)).mono ?_; rintro e w' ⟨rfl, hb'⟩)
          go_ret
          exact ⟨by rw [sameL_miss xs ys kk x y HG.out HK.out HQ.out]; rfl, below_step BW.out (below_step (Below.alloc (box_belowS _ _) (by simp) _) hb')⟩
        | true =>
          rw [hq] at HC
          have HQ := Aside0.mk hq
          clear hq
          go_wp2_with (go_at_call 22; refine (HC.out _ (Below.alloc (box_belowS _ _) (by simp) _)).mono ?_; rintro e w' ⟨rfl, hb'⟩)
          go_roundg (xs.length - (kk + 1))
          case measure => omega
          case rel => exact ⟨kk + 1, by omega, by omega, by go_num, ⟨below_step BW.out (below_step (Below.alloc (box_belowS _ _) (by simp) _) hb')⟩, ⟨sameL_take xs ys kk x y HG.out HK.out HA.out HQ.out⟩⟩
      · have hltz : ¬ (kk : Int) < (xs.length : Int) := by omega
        have HK := Aside0.mk (show kk = xs.length by omega)
        go_wp2
        go_ret
        refine ⟨?_, BW.out⟩
        have h := HA.out
        rw [HK.out, List.take_length, HL.out, List.take_length] at h
        rw [(sameL_iff xs ys).2 h]; rfl
  · have HL := Aside0.mk hlen
    have e0 : ((xs.length : Int) != (ys.length : Int)) = true := by simp; omega
    have e1 : (xs.length == ys.length) = false := by simp; omega
    clear hlen
    go_enter Try.func34, Try.ntmps34
    go_wp2
    go_ret
    exact ⟨by rw [sameL_len xs ys HL.out]; rfl, Below.refl _ _⟩
section
attribute [local go_sem high] eqA25
set_option maxHeartbeats 4000000 in
set_option maxRecDepth 100000 in
theorem same_any (n : Nat) : ∀ (x y : S28) (A5 B5 : Option Addr) (c5 d5 : Nat) (w : World), SizeOf.sizeOf x < n → Kd.C k28 w A5 x.f2.length x.f2 → x.f2.length ≤ c5 → Kd.C k28 w B5 y.f2.length y.f2 → y.f2.length ≤ d5 →
    Calls Try.prog 22 #[ndV x A5 c5, ndV y B5 d5] w fun e w' => e = .returned (.bool (sameT x y)) ∧ Below w.heap.size w w' := by
  induction n with
  | zero => intro x y A5 B5 c5 d5 w h; omega
  | succ n ih =>
    intro x y A5 B5 c5 d5 w hn hr hc hs hd
    have HR := Aside0.mk hr
    have HY := Aside0.mk hs
    have HS := Aside0.mk hn
    have HI := Aside0.mk (show ∀ W, Below w.heap.size w W → Calls Try.prog 34 #[.slice A5 x.f2.length c5, .slice B5 y.f2.length d5, .func (.func 22) #[] #[]] W fun e w' => e = .returned (.bool (sameL x.f2 y.f2)) ∧ Below W.heap.size W w' from
      fun W hW => eqf_any A5 B5 c5 d5 x.f2 y.f2 W (Kd.C_below HR.out hW) (Kd.C_below HY.out hW) fun z hz z' A' B' c' d' V h1 h2 h3 h4 => ih z z' A' B' c' d' V (by have := mem_lt hz; have := HS.out; omega) h1 h2 h3 h4)
    clear hr hs hn hc hd ih
    obtain ⟨k, ⟨s0, s1, s2, s3⟩, ps, lo, hi⟩ := x
    obtain ⟨k', ⟨t0, t1, t2, t3⟩, qs, lo', hi'⟩ := y
    have HV := Aside0.mk (show sameT ⟨k, ⟨s0, s1, s2, s3⟩, ps, lo, hi⟩ ⟨k', ⟨t0, t1, t2, t3⟩, qs, lo', hi'⟩ = (k == k' && (s0 == t0 && (s1 == t1 && (s2 == t2 && s3 == t3))) && lo == lo' && hi == hi' && sameL ps qs) by rw [sameT])
    rw [ndV_mkS, ndV_mkS]
    have hbx : ∀ (o o' : Obj), Below w.heap.size w ((w.alloc o).alloc o') := fun o o' => Below.alloc (box_belowS _ _) (by simp) _
    have HB := Aside0.mk hbx
    clear hbx
    cases e1 : k == k' with
    | false =>
      rw [e1] at HV
      go_enter Try.func22, Try.ntmps22
      go_wp2_with fail
      go_ret
      exact ⟨by rw [HV.out]; rfl, HB.out _ _⟩
    | true =>
      cases e2 : (s0 == t0 && (s1 == t1 && (s2 == t2 && s3 == t3))) with
      | false =>
        rw [e1, e2] at HV
        go_enter Try.func22, Try.ntmps22
        go_wp2_with fail
        go_ret
        exact ⟨by rw [HV.out]; rfl, HB.out _ _⟩
      | true =>
        cases e3 : lo == lo' with
        | false =>
          rw [e1, e2, e3] at HV
          go_enter Try.func22, Try.ntmps22
          go_wp2_with fail
          go_ret
          exact ⟨by rw [HV.out]; rfl, HB.out _ _⟩
        | true =>
          cases e4 : hi == hi' with
          | false =>
            rw [e1, e2, e3, e4] at HV
            go_enter Try.func22, Try.ntmps22
            go_wp2_with fail
            go_ret
            exact ⟨by rw [HV.out]; rfl, HB.out _ _⟩
          | true =>
            rw [e1, e2, e3, e4] at HV
            go_enter Try.func22, Try.ntmps22
            go_wp2_with (go_at_call 34; refine (HI.out _ (HB.out _ _)).mono ?_; rintro e w1 ⟨rfl, hb1⟩)
            go_ret
            exact ⟨by rw [HV.out]; rfl, below_step (HB.out _ _) hb1⟩
end
def syntax_Same.f (a0_0 a0_1 a0_2 a0_3 a0_4 : Int) (l0_5 : List S28) (a0_6 a0_7 : Int) (a1_0 a1_1 a1_2 a1_3 a1_4 : Int) (l1_5 : List S28) (a1_6 a1_7 : Int) : Option Bool := some (sameT ⟨a0_0, ⟨a0_1, a0_2, a0_3, a0_4⟩, l0_5, a0_6, a0_7⟩ ⟨a1_0, ⟨a1_1, a1_2, a1_3, a1_4⟩, l1_5, a1_6, a1_7⟩)
theorem syntax_Same.calls (a0_0 : Int) (a0_1 : Int) (a0_2 : Int) (a0_3 : Int) (a0_4 : Int) (A0_5 : Option Addr) (c0_5 : Nat) (l0_5 : List S28) (a0_6 : Int) (a0_7 : Int) (a1_0 : Int) (a1_1 : Int) (a1_2 : Int) (a1_3 : Int) (a1_4 : Int) (A1_5 : Option Addr) (c1_5 : Nat) (l1_5 : List S28) (a1_6 : Int) (a1_7 : Int) (r : Bool) (w : World) (hr0_5 : Kd.C k28 w A0_5 l0_5.length l0_5) (hc0_5 : l0_5.length ≤ c0_5) (hr1_5 : Kd.C k28 w A1_5 l1_5.length l1_5) (hc1_5 : l1_5.length ≤ c1_5) (h : syntax_Same.f a0_0 a0_1 a0_2 a0_3 a0_4 l0_5 a0_6 a0_7 a1_0 a1_1 a1_2 a1_3 a1_4 l1_5 a1_6 a1_7 = some r) :
    Calls Try.prog 22 #[.agg #[.int .i64 a0_0, .int .u64 a0_1, .int .u64 a0_2, .int .u64 a0_3, .int .u64 a0_4, .slice A0_5 l0_5.length c0_5, .int .i64 a0_6, .int .i64 a0_7], .agg #[.int .i64 a1_0, .int .u64 a1_1, .int .u64 a1_2, .int .u64 a1_3, .int .u64 a1_4, .slice A1_5 l1_5.length c1_5, .int .i64 a1_6, .int .i64 a1_7]] w fun e w' => e = .returned (.bool r) ∧ Below w.heap.size w w' := by
  obtain rfl := Option.some.inj h
  exact same_any _ ⟨a0_0, ⟨a0_1, a0_2, a0_3, a0_4⟩, l0_5, a0_6, a0_7⟩ ⟨a1_0, ⟨a1_1, a1_2, a1_3, a1_4⟩, l1_5, a1_6, a1_7⟩ A0_5 A1_5 c0_5 c1_5 w (Nat.lt_succ_self _) hr0_5 hc0_5 hr1_5 hc1_5


-- NOT PRINTED: function 9 (ostinatolaw02_SyntaxTrees)

end Go.Proofs.Ytmkcbbamfkafmaa.P
