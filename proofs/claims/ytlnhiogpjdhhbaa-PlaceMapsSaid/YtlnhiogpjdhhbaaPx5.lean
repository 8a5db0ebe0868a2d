import Derived.Test.YtlnhiogpjdhhbaaPx0
import Derived.Test.YtlnhiogpjdhhbaaPx2
import Derived.Test.YtlnhiogpjdhhbaaPx4
-- Written by wip/xp.
namespace Go.Proofs.Ytlnhiogpjdhhbaa.P
open Go.RowKit Go.Proofs.YtlnhiogpjdhhbaaW.PrintWords Go.Proofs.YtlnhiogpjdhhbaaW.PrintLast Go.Proofs.YtlnhiogpjdhhbaaW.PrintMore
open Go.Proofs.YtlnhiogpjdhhbaaW.PrintWords renaming below_step → zA
open Go.Proofs.YtlnhiogpjdhhbaaW.PrintWords.Aside0 renaming mk → zB
open Go.World renaming block_lt_of_cell? → zC
attribute [local go_sem] max2_int min2_int max_two min_two max_three min_three max_four min_four   -- for this text's walks alone
set_option linter.unusedVariables false
set_option linter.unusedSimpArgs false

mutual
def okT : S27 → Bool
  | ⟨k, _, ps, _, _⟩ => (!(k == 4) || !ps.isEmpty) && okL ps
def okL : List S27 → Bool
  | [] => true
  | p :: ps => okT p && okL ps
end
theorem okL_all (l : List S27) : okL l = l.all okT := by
  induction l with
  | nil => simp [okL]
  | cons p l ih => rw [okL, ih]; simp
theorem okT_eq (x : S27) : okT x = ((!(x.f0 == 4) || !x.f2.isEmpty) && x.f2.all okT) := by
  cases x; rw [okT, okL_all]
mutual
def voidT : S27 → Bool
  | ⟨k, s, ps, lo, _⟩ => if k = 1 then emptyB s else if k = 2 then voidE ps else if k = 3 then voidA ps else if k = 4 then decide (0 < lo) && voidH ps else false
def voidE : List S27 → Bool
  | [] => false
  | p :: ps => voidT p || voidE ps
def voidA : List S27 → Bool
  | [] => true
  | p :: ps => voidT p && voidA ps
def voidH : List S27 → Bool
  | [] => false
  | p :: _ => voidT p
end
theorem voidE_any (l : List S27) : voidE l = l.any voidT := by
  induction l with
  | nil => simp [voidE]
  | cons p l ih => rw [voidE, ih]; simp
theorem voidA_all (l : List S27) : voidA l = !(l.any fun x => !voidT x) := by
  induction l with
  | nil => simp [voidA]
  | cons p l ih => rw [voidA, ih]; simp
mutual
def nullT : S27 → Bool
  | ⟨k, _, ps, lo, _⟩ => if k = 1 then false else if k = 2 then nullA ps else if k = 3 then nullE ps else if k = 4 then lo == 0 || nullH ps else true
def nullE : List S27 → Bool
  | [] => false
  | p :: ps => nullT p || nullE ps
def nullA : List S27 → Bool
  | [] => true
  | p :: ps => nullT p && nullA ps
def nullH : List S27 → Bool
  | [] => false
  | p :: _ => nullT p
end
theorem nullE_any (l : List S27) : nullE l = l.any nullT := by
  induction l with
  | nil => simp [nullE]
  | cons p l ih => rw [nullE, ih]; simp
theorem nullA_all (l : List S27) : nullA l = !(l.any fun x => !nullT x) := by
  induction l with
  | nil => simp [nullA]
  | cons p l ih => rw [nullA, ih]; simp
theorem enV : Enters Try.prog 32 := enters_of Try.func32 (by kernel_rfl) rfl
theorem enV1 : Enters Try.prog 39 := enters_of Try.func39 (by kernel_rfl) rfl
theorem enN : Enters Try.prog 42 := enters_of Try.func42 (by kernel_rfl) rfl
theorem enN1 : Enters Try.prog 44 := enters_of Try.func44 (by kernel_rfl) rfl
theorem ndV_mk (k s0 s1 s2 s3 lo hi : Int) (ps : List S27) (A : Option Addr) (c : Nat) : ndV ⟨k, ⟨s0, s1, s2, s3⟩, ps, lo, hi⟩ A c = .agg #[.int .i64 k, .int .u64 s0, .int .u64 s1, .int .u64 s2, .int .u64 s3, .slice A ps.length c, .int .i64 lo, .int .i64 hi] := rfl
theorem box_below (w : World) (o : Obj) : Below w.heap.size w (w.alloc o) := (Below.refl _ _).alloc (Nat.le_refl _) _
set_option maxHeartbeats 4000000 in
set_option maxRecDepth 100000 in
theorem void_any (n : Nat) : ∀ (x : S27) (A5 : Option Addr) (c5 : Nat) (w : World), SizeOf.sizeOf x < n → okT x = true → Kd.C k27 w A5 x.f2.length x.f2 → x.f2.length ≤ c5 →
    Calls Try.prog 32 #[ndV x A5 c5] w fun e w' => e = .returned (.bool (voidT x)) ∧ Below w.heap.size w w' := by
  induction n with
  | zero => intro x A5 c5 w h; omega
  | succ n ih =>
    intro x A5 c5 w hn hok hr hc
    have HR := zB hr
    have HS := zB hn
    have HOK := zB (by rw [okT_eq] at hok; simpa [Decidable.imp_iff_not_or] using hok : (x.f0 = 4 → ¬ x.f2 = []) ∧ ∀ y ∈ x.f2, okT y = true)
    have hcn0 : ∀ W, Below w.heap.size w W → Calls Try.prog 30 #[.slice A5 x.f2.length c5, .func (.func 32) #[] #[]] W fun e w' => e = .returned (.bool (x.f2.any voidT)) ∧ Below W.heap.size W w' := by
      intro W hW
      refine contains_any 32 #[] voidT enV A5 c5 x.f2 W (Kd.C_below HR.out hW) ?_
      intro y hy B5 d5 V hV hry hcy
      exact ih y B5 d5 V (by have := mem_lt hy; have := HS.out; omega) (HOK.out.2 y hy) hry hcy
    have hcn1 : ∀ W, Below w.heap.size w W → Calls Try.prog 30 #[.slice A5 x.f2.length c5, .func (.func 39) #[] #[]] W fun e w' => e = .returned (.bool (x.f2.any fun y => !voidT y)) ∧ Below W.heap.size W w' := by
      intro W hW
      refine contains_any 39 #[] (fun y => !voidT y) enV1 A5 c5 x.f2 W (Kd.C_below HR.out hW) ?_
      intro y hy B5 d5 V hV hry hcy
      have HI := zB (show ∀ U, Below V.heap.size V U → Calls Try.prog 32 #[ndV y B5 d5] U fun e w' => e = .returned (.bool (voidT y)) ∧ Below U.heap.size U w' from
        fun U hU => ih y B5 d5 U (by have := mem_lt hy; have := HS.out; omega) (HOK.out.2 y hy) (Kd.C_below hry hU) hcy)
      unfold ndV at HI ⊢
      clear hry hcy hV hW
      go_enter Try.func39, Try.ntmps39
      go_wp2_with (go_at_call 32; refine (HI.out _ (box_below _ _)).mono ?_; rintro e w' ⟨rfl, hb'⟩)
      go_ret
      exact ⟨rfl, zA (box_below _ _) hb'⟩
    have H0 := zB hcn0
    have H1 := zB hcn1
    clear hcn0 hcn1 hr hn hok
    obtain ⟨k, ⟨s0, s1, s2, s3⟩, ps, lo, hi⟩ := x
    rw [ndV_mk]
    by_cases k1 : k = 1
    · subst k1
      have HE := zB (fun W => class_Empty.calls s0 s1 s2 s3 (emptyB ⟨s0, s1, s2, s3⟩) W rfl)
      have HV := zB (show voidT ⟨1, ⟨s0, s1, s2, s3⟩, ps, lo, hi⟩ = emptyB ⟨s0, s1, s2, s3⟩ by rw [voidT]; simp)
      clear ih hc
      go_enter Try.func32, Try.ntmps32
      go_wp2_with (go_at_call 26; refine (HE.out _).mono ?_; rintro e w1 ⟨rfl, hb1⟩)
      go_ret
      exact ⟨by rw [HV.out]; rfl, zA (box_below _ _) hb1⟩
    · by_cases k2 : k = 2
      · subst k2
        have HV := zB (show voidT ⟨2, ⟨s0, s1, s2, s3⟩, ps, lo, hi⟩ = ps.any voidT by rw [voidT, voidE_any]; simp)
        clear ih hc k1
        go_enter Try.func32, Try.ntmps32
        go_wp2_with (go_at_call 30; refine (H0.out _ (box_below _ _)).mono ?_; rintro e w1 ⟨rfl, hb1⟩)
        go_ret
        exact ⟨by rw [HV.out]; rfl, zA (box_below _ _) hb1⟩
      · by_cases k3 : k = 3
        · subst k3
          have HV := zB (show voidT ⟨3, ⟨s0, s1, s2, s3⟩, ps, lo, hi⟩ = !(ps.any fun x => !voidT x) by rw [voidT, voidA_all]; simp)
          clear ih hc k1 k2
          go_enter Try.func32, Try.ntmps32
          go_wp2_with (go_at_call 30; refine (H1.out _ (box_below _ _)).mono ?_; rintro e w1 ⟨rfl, hb1⟩)
          go_ret
          exact ⟨by rw [HV.out]; rfl, zA (box_below _ _) hb1⟩
        · by_cases k4 : k = 4
          · subst k4
            by_cases hlo : 0 < lo
            · have hne := HOK.out.1 rfl
              obtain ⟨p, rest, hps⟩ := List.exists_cons_of_ne_nil hne
              have HV := zB (show voidT ⟨4, ⟨s0, s1, s2, s3⟩, ps, lo, hi⟩ = voidT p by rw [voidT]; simp only at hps; rw [hps]; simp [hlo, voidH])
              have hmem : p ∈ ps := by simp only at hps; rw [hps]; simp
              have hl0 : (0 : Int) < (ps.length : Int) := by simp only at hps; rw [hps]; simp
              obtain ⟨ad, B5, d5, e0, h0, h1, h2, h3, h4, h5, h6, h7, hl5, hi5⟩ := at_T27 HR.out 0 (by omega) hl0
              have hz : ad.add ((0 : Int).toNat * 8) = ad := by simp [Addr.add]
              rw [hz] at h0 h1 h2 h3 h4 h5 h6 h7
              clear hz
              have hrd : rd_T27 ps 0 = p := by simp only at hps; rw [hps]; rfl
              simp only [hrd] at h0 h1 h2 h3 h4 h5 h6 h7 hl5 hi5
              obtain rfl : A5 = some ad := e0
              have HI := zB (show ∀ U, Below w.heap.size w U → Calls Try.prog 32 #[ndV p B5 d5] U fun e w' => e = .returned (.bool (voidT p)) ∧ Below U.heap.size U w' from
                fun U hU => ih p B5 d5 U (by have := mem_lt (t := ⟨4, ⟨s0, s1, s2, s3⟩, ps, lo, hi⟩) hmem; have := HS.out; omega) (HOK.out.2 p hmem) (Kd.C_below hi5 hU) hl5)
              unfold ndV at HI
              have HL := zB hl0
              have g0 := fun o : Obj => ((box_below w o).cell (zC w _ h0)).trans h0; have g1 := fun o : Obj => ((box_below w o).cell (zC w _ h1)).trans h1; have g2 := fun o : Obj => ((box_below w o).cell (zC w _ h2)).trans h2; have g3 := fun o : Obj => ((box_below w o).cell (zC w _ h3)).trans h3; have g4 := fun o : Obj => ((box_below w o).cell (zC w _ h4)).trans h4; have g5 := fun o : Obj => ((box_below w o).cell (zC w _ h5)).trans h5; have g6 := fun o : Obj => ((box_below w o).cell (zC w _ h6)).trans h6; have g7 := fun o : Obj => ((box_below w o).cell (zC w _ h7)).trans h7
              clear ih hc k1 k2 k3 hrd hps hmem hl5 hi5 hl0 h0 h1 h2 h3 h4 h5 h6 h7
              have hl0 : decide ((0 : Int) < (ps.length : Int)) = true := decide_eq_true HL.out
              have hl1 : decide (0 < ps.length) = true := decide_eq_true (by have := HL.out; omega)
              have hl2 : 0 < ps.length := by have := HL.out; omega
              go_enter Try.func32, Try.ntmps32
              go_wp2_with (go_at_call 32; refine (HI.out _ (box_below _ _)).mono ?_; rintro e w1 ⟨rfl, hb1⟩)
              go_ret
              exact ⟨by rw [HV.out]; rfl, zA (box_below _ _) hb1⟩
            · have HV := zB (show voidT ⟨4, ⟨s0, s1, s2, s3⟩, ps, lo, hi⟩ = false by rw [voidT]; simp [hlo])
              have hd : decide (0 < lo) = false := decide_eq_false hlo
              clear ih hc k1 k2 k3 hlo
              go_enter Try.func32, Try.ntmps32
              go_wp2_with fail
              go_ret
              exact ⟨by rw [HV.out]; rfl, box_below _ _⟩
          · have HV := zB (show voidT ⟨k, ⟨s0, s1, s2, s3⟩, ps, lo, hi⟩ = false by rw [voidT]; simp [k1, k2, k3, k4])
            have e1 : (k == 1) = false := by simpa using k1
            have e2 : (k == 2) = false := by simpa using k2
            have e3 : (k == 3) = false := by simpa using k3
            have e4 : (k == 4) = false := by simpa using k4
            clear ih hc k1 k2 k3 k4
            go_enter Try.func32, Try.ntmps32
            go_wp2_with fail
            go_ret
            exact ⟨by rw [HV.out]; rfl, box_below _ _⟩
set_option maxHeartbeats 4000000 in
set_option maxRecDepth 100000 in
theorem null_any (n : Nat) : ∀ (x : S27) (A5 : Option Addr) (c5 : Nat) (w : World), SizeOf.sizeOf x < n → okT x = true → Kd.C k27 w A5 x.f2.length x.f2 → x.f2.length ≤ c5 →
    Calls Try.prog 42 #[ndV x A5 c5] w fun e w' => e = .returned (.bool (nullT x)) ∧ Below w.heap.size w w' := by
  induction n with
  | zero => intro x A5 c5 w h; omega
  | succ n ih =>
    intro x A5 c5 w hn hok hr hc
    have HR := zB hr
    have HS := zB hn
    have HOK := zB (by rw [okT_eq] at hok; simpa [Decidable.imp_iff_not_or] using hok : (x.f0 = 4 → ¬ x.f2 = []) ∧ ∀ y ∈ x.f2, okT y = true)
    have hcn0 : ∀ W, Below w.heap.size w W → Calls Try.prog 30 #[.slice A5 x.f2.length c5, .func (.func 42) #[] #[]] W fun e w' => e = .returned (.bool (x.f2.any nullT)) ∧ Below W.heap.size W w' := by
      intro W hW
      refine contains_any 42 #[] nullT enN A5 c5 x.f2 W (Kd.C_below HR.out hW) ?_
      intro y hy B5 d5 V hV hry hcy
      exact ih y B5 d5 V (by have := mem_lt hy; have := HS.out; omega) (HOK.out.2 y hy) hry hcy
    have hcn1 : ∀ W, Below w.heap.size w W → Calls Try.prog 30 #[.slice A5 x.f2.length c5, .func (.func 44) #[] #[]] W fun e w' => e = .returned (.bool (x.f2.any fun y => !nullT y)) ∧ Below W.heap.size W w' := by
      intro W hW
      refine contains_any 44 #[] (fun y => !nullT y) enN1 A5 c5 x.f2 W (Kd.C_below HR.out hW) ?_
      intro y hy B5 d5 V hV hry hcy
      have HI := zB (show ∀ U, Below V.heap.size V U → Calls Try.prog 42 #[ndV y B5 d5] U fun e w' => e = .returned (.bool (nullT y)) ∧ Below U.heap.size U w' from
        fun U hU => ih y B5 d5 U (by have := mem_lt hy; have := HS.out; omega) (HOK.out.2 y hy) (Kd.C_below hry hU) hcy)
      unfold ndV at HI ⊢
      clear hry hcy hV hW
      go_enter Try.func44, Try.ntmps44
      go_wp2_with (go_at_call 42; refine (HI.out _ (box_below _ _)).mono ?_; rintro e w' ⟨rfl, hb'⟩)
      go_ret
      exact ⟨rfl, zA (box_below _ _) hb'⟩
    have H0 := zB hcn0
    have H1 := zB hcn1
    clear hcn0 hcn1 hr hn hok
    obtain ⟨k, ⟨s0, s1, s2, s3⟩, ps, lo, hi⟩ := x
    rw [ndV_mk]
    by_cases k1 : k = 1
    · subst k1
      have HV := zB (show nullT ⟨1, ⟨s0, s1, s2, s3⟩, ps, lo, hi⟩ = false by rw [nullT]; simp)
      clear ih hc
      go_enter Try.func42, Try.ntmps42
      go_wp2_with fail
      go_ret
      exact ⟨by rw [HV.out]; rfl, box_below _ _⟩
    · by_cases k2 : k = 2
      · subst k2
        have HV := zB (show nullT ⟨2, ⟨s0, s1, s2, s3⟩, ps, lo, hi⟩ = !(ps.any fun x => !nullT x) by rw [nullT, nullA_all]; simp)
        clear ih hc k1
        go_enter Try.func42, Try.ntmps42
        go_wp2_with (go_at_call 30; refine (H1.out _ (box_below _ _)).mono ?_; rintro e w1 ⟨rfl, hb1⟩)
        go_ret
        exact ⟨by rw [HV.out]; rfl, zA (box_below _ _) hb1⟩
      · by_cases k3 : k = 3
        · subst k3
          have HV := zB (show nullT ⟨3, ⟨s0, s1, s2, s3⟩, ps, lo, hi⟩ = ps.any nullT by rw [nullT, nullE_any]; simp)
          clear ih hc k1 k2
          go_enter Try.func42, Try.ntmps42
          go_wp2_with (go_at_call 30; refine (H0.out _ (box_below _ _)).mono ?_; rintro e w1 ⟨rfl, hb1⟩)
          go_ret
          exact ⟨by rw [HV.out]; rfl, zA (box_below _ _) hb1⟩
        · by_cases k4 : k = 4
          · subst k4
            by_cases hlo : ¬ lo = 0
            · have hne := HOK.out.1 rfl
              obtain ⟨p, rest, hps⟩ := List.exists_cons_of_ne_nil hne
              have HV := zB (show nullT ⟨4, ⟨s0, s1, s2, s3⟩, ps, lo, hi⟩ = nullT p by rw [nullT]; simp only at hps; rw [hps]; simp [hlo, nullH])
              have hmem : p ∈ ps := by simp only at hps; rw [hps]; simp
              have hl0 : (0 : Int) < (ps.length : Int) := by simp only at hps; rw [hps]; simp
              obtain ⟨ad, B5, d5, e0, h0, h1, h2, h3, h4, h5, h6, h7, hl5, hi5⟩ := at_T27 HR.out 0 (by omega) hl0
              have hz : ad.add ((0 : Int).toNat * 8) = ad := by simp [Addr.add]
              rw [hz] at h0 h1 h2 h3 h4 h5 h6 h7
              clear hz
              have hrd : rd_T27 ps 0 = p := by simp only at hps; rw [hps]; rfl
              simp only [hrd] at h0 h1 h2 h3 h4 h5 h6 h7 hl5 hi5
              obtain rfl : A5 = some ad := e0
              have HI := zB (show ∀ U, Below w.heap.size w U → Calls Try.prog 42 #[ndV p B5 d5] U fun e w' => e = .returned (.bool (nullT p)) ∧ Below U.heap.size U w' from
                fun U hU => ih p B5 d5 U (by have := mem_lt (t := ⟨4, ⟨s0, s1, s2, s3⟩, ps, lo, hi⟩) hmem; have := HS.out; omega) (HOK.out.2 p hmem) (Kd.C_below hi5 hU) hl5)
              unfold ndV at HI
              have HL := zB hl0
              have hd : (lo == 0) = false := by simpa using hlo
              have g0 := fun o : Obj => ((box_below w o).cell (zC w _ h0)).trans h0; have g1 := fun o : Obj => ((box_below w o).cell (zC w _ h1)).trans h1; have g2 := fun o : Obj => ((box_below w o).cell (zC w _ h2)).trans h2; have g3 := fun o : Obj => ((box_below w o).cell (zC w _ h3)).trans h3; have g4 := fun o : Obj => ((box_below w o).cell (zC w _ h4)).trans h4; have g5 := fun o : Obj => ((box_below w o).cell (zC w _ h5)).trans h5; have g6 := fun o : Obj => ((box_below w o).cell (zC w _ h6)).trans h6; have g7 := fun o : Obj => ((box_below w o).cell (zC w _ h7)).trans h7
              clear ih hc k1 k2 k3 hrd hps hmem hl5 hi5 hl0 h0 h1 h2 h3 h4 h5 h6 h7
              have hl0 : decide ((0 : Int) < (ps.length : Int)) = true := decide_eq_true HL.out
              have hl1 : decide (0 < ps.length) = true := decide_eq_true (by have := HL.out; omega)
              have hl2 : 0 < ps.length := by have := HL.out; omega
              go_enter Try.func42, Try.ntmps42
              go_wp2_with (go_at_call 42; refine (HI.out _ (box_below _ _)).mono ?_; rintro e w1 ⟨rfl, hb1⟩)
              go_ret
              exact ⟨by rw [HV.out]; rfl, zA (box_below _ _) hb1⟩
            · have HV := zB (show nullT ⟨4, ⟨s0, s1, s2, s3⟩, ps, lo, hi⟩ = true by rw [nullT]; simp [Decidable.not_not.1 hlo])
              have hd : (lo == 0) = true := by simpa using hlo
              clear ih hc k1 k2 k3 hlo
              go_enter Try.func42, Try.ntmps42
              go_wp2_with fail
              go_ret
              exact ⟨by rw [HV.out]; rfl, box_below _ _⟩
          · have HV := zB (show nullT ⟨k, ⟨s0, s1, s2, s3⟩, ps, lo, hi⟩ = true by rw [nullT]; simp [k1, k2, k3, k4])
            have e1 : (k == 1) = false := by simpa using k1
            have e2 : (k == 2) = false := by simpa using k2
            have e3 : (k == 3) = false := by simpa using k3
            have e4 : (k == 4) = false := by simpa using k4
            clear ih hc k1 k2 k3 k4
            go_enter Try.func42, Try.ntmps42
            go_wp2_with fail
            go_ret
            exact ⟨by rw [HV.out]; rfl, box_below _ _⟩
def core_void.f (a0_0 a0_1 a0_2 a0_3 a0_4 : Int) (l0_5 : List S27) (a0_6 a0_7 : Int) : Option Bool := if okT ⟨a0_0, ⟨a0_1, a0_2, a0_3, a0_4⟩, l0_5, a0_6, a0_7⟩ = true then some (voidT ⟨a0_0, ⟨a0_1, a0_2, a0_3, a0_4⟩, l0_5, a0_6, a0_7⟩) else none
theorem core_void.calls (a0_0 : Int) (a0_1 : Int) (a0_2 : Int) (a0_3 : Int) (a0_4 : Int) (A0_5 : Option Addr) (c0_5 : Nat) (l0_5 : List S27) (a0_6 : Int) (a0_7 : Int) (r : Bool) (w : World) (hr0_5 : Kd.C k27 w A0_5 l0_5.length l0_5) (hc0_5 : l0_5.length ≤ c0_5) (h : core_void.f a0_0 a0_1 a0_2 a0_3 a0_4 l0_5 a0_6 a0_7 = some r) :
    Calls Try.prog 32 #[.agg #[.int .i64 a0_0, .int .u64 a0_1, .int .u64 a0_2, .int .u64 a0_3, .int .u64 a0_4, .slice A0_5 l0_5.length c0_5, .int .i64 a0_6, .int .i64 a0_7]] w fun e w' => e = .returned (.bool r) ∧ Below w.heap.size w w' := by
  unfold core_void.f at h
  by_cases hk : okT ⟨a0_0, ⟨a0_1, a0_2, a0_3, a0_4⟩, l0_5, a0_6, a0_7⟩ = true
  · rw [if_pos hk] at h
    obtain rfl := Option.some.inj h
    exact void_any _ ⟨a0_0, ⟨a0_1, a0_2, a0_3, a0_4⟩, l0_5, a0_6, a0_7⟩ A0_5 c0_5 w (Nat.lt_succ_self _) hk hr0_5 hc0_5
  · rw [if_neg hk] at h
    cases h
def core_nullable.f (a0_0 a0_1 a0_2 a0_3 a0_4 : Int) (l0_5 : List S27) (a0_6 a0_7 : Int) : Option Bool := if okT ⟨a0_0, ⟨a0_1, a0_2, a0_3, a0_4⟩, l0_5, a0_6, a0_7⟩ = true then some (nullT ⟨a0_0, ⟨a0_1, a0_2, a0_3, a0_4⟩, l0_5, a0_6, a0_7⟩) else none
theorem core_nullable.calls (a0_0 : Int) (a0_1 : Int) (a0_2 : Int) (a0_3 : Int) (a0_4 : Int) (A0_5 : Option Addr) (c0_5 : Nat) (l0_5 : List S27) (a0_6 : Int) (a0_7 : Int) (r : Bool) (w : World) (hr0_5 : Kd.C k27 w A0_5 l0_5.length l0_5) (hc0_5 : l0_5.length ≤ c0_5) (h : core_nullable.f a0_0 a0_1 a0_2 a0_3 a0_4 l0_5 a0_6 a0_7 = some r) :
    Calls Try.prog 42 #[.agg #[.int .i64 a0_0, .int .u64 a0_1, .int .u64 a0_2, .int .u64 a0_3, .int .u64 a0_4, .slice A0_5 l0_5.length c0_5, .int .i64 a0_6, .int .i64 a0_7]] w fun e w' => e = .returned (.bool r) ∧ Below w.heap.size w w' := by
  unfold core_nullable.f at h
  by_cases hk : okT ⟨a0_0, ⟨a0_1, a0_2, a0_3, a0_4⟩, l0_5, a0_6, a0_7⟩ = true
  · rw [if_pos hk] at h
    obtain rfl := Option.some.inj h
    exact null_any _ ⟨a0_0, ⟨a0_1, a0_2, a0_3, a0_4⟩, l0_5, a0_6, a0_7⟩ A0_5 c0_5 w (Nat.lt_succ_self _) hk hr0_5 hc0_5
  · rw [if_neg hk] at h
    cases h


end Go.Proofs.Ytlnhiogpjdhhbaa.P
