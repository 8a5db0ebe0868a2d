import Derived.Test.YtlnhiogpjdhhbaaPx0
import Derived.Test.YtlnhiogpjdhhbaaPx4
import Derived.Test.YtlnhiogpjdhhbaaPx5
import Derived.Test.YtlnhiogpjdhhbaaPx6
-- Written by wip/xp.
namespace Go.Proofs.Ytlnhiogpjdhhbaa.P
open Go.RowKit Go.Proofs.YtlnhiogpjdhhbaaW.PrintWords Go.Proofs.YtlnhiogpjdhhbaaW.PrintLast Go.Proofs.YtlnhiogpjdhhbaaW.PrintMore
open Go.Proofs.YtlnhiogpjdhhbaaW.PrintWords renaming blk_cell → zA, below_step → zB, blk_below → zC
open Go.Proofs.YtlnhiogpjdhhbaaW.PrintWords.Aside0 renaming mk → zD
attribute [local go_sem] max2_int min2_int max_two min_two max_three min_three max_four min_four   -- for this text's walks alone
set_option linter.unusedVariables false
set_option linter.unusedSimpArgs false

mutual
def cntT : S27 → Nat
  | ⟨_, _, ps, _, _⟩ => 1 + cntL ps
def cntL : List S27 → Nat
  | [] => 0
  | p :: ps => cntT p + cntL ps
end
theorem cntT_eq (x : S27) : cntT x = 1 + cntL x.f2 := by cases x; rw [cntT]
mutual
def putP (kind : Int) (l : List S27) : S27 → List S27
  | ⟨k, s, ps, lo, hi⟩ => if k = kind then putL kind l ps else if kind = 2 ∧ k = 0 then l else if kind = 3 ∧ (voidT ⟨k, s, ps, lo, hi⟩ || l.any fun q => sameT ⟨k, s, ps, lo, hi⟩ q) = true then l else l ++ [⟨k, s, ps, lo, hi⟩]
def putL (kind : Int) (l : List S27) : List S27 → List S27
  | [] => l
  | p :: ps => putL kind (putP kind l p) ps
end
theorem putP_eq (kind : Int) (l : List S27) (x : S27) : putP kind l x = if x.f0 = kind then putL kind l x.f2 else if kind = 2 ∧ x.f0 = 0 then l else if kind = 3 ∧ (voidT x || l.any fun q => sameT x q) = true then l else l ++ [x] := by
  cases x; rw [putP]
mutual
theorem putP_len (kind : Int) : ∀ (l : List S27) (x : S27), (putP kind l x).length ≤ l.length + cntT x
  | l, ⟨k, s, ps, lo, hi⟩ => by
    have := putL_len kind l ps
    rw [putP, cntT]
    split
    · omega
    · split
      · omega
      · split
        · omega
        · simp
theorem putL_len (kind : Int) : ∀ (l ps : List S27), (putL kind l ps).length ≤ l.length + cntL ps
  | l, [] => by simp [putL, cntL]
  | l, p :: ps => by
    have h1 := putP_len kind l p
    have h2 := putL_len kind (putP kind l p) ps
    rw [putL, cntL]
    omega
end
def FrB (w W : World) (v : Value) : Prop := w.heap.size ≤ W.heap.size ∧ ∀ k, k < w.heap.size → some k ≠ v.ownBlock → W.heap[k]? = w.heap[k]?
def AtB (w : World) (v v1 : Value) : Prop := v1.ownBlock = v.ownBlock ∨ ∃ b, v1.ownBlock = some b ∧ w.heap.size ≤ b
theorem FrB.refl (w : World) (v : Value) : FrB w w v := ⟨Nat.le_refl _, fun _ _ _ => rfl⟩
theorem FrB.of_below {w W : World} (v : Value) (h : Below w.heap.size w W) : FrB w W v := ⟨h.size, fun k hk _ => h.block k hk⟩
theorem FrB.of_grown {w W : World} {v : Value} (h : w.grownBy W v.ownBlock) : FrB w W v := ⟨h.size, fun k hk hn => h.block k hk hn⟩
theorem FrB.trans {w W X : World} {v v1 : Value} (h : FrB w W v) (k : FrB W X v1) (hat : AtB w v v1) : FrB w X v :=
  ⟨Nat.le_trans h.1 k.1, fun i hi hn => (k.2 i (Nat.lt_of_lt_of_le hi h.1) (by
    rcases hat with e | ⟨b, e, hb⟩
    · rw [e]; exact hn
    · rw [e]; intro h; injection h with h; omega)).trans (h.2 i hi hn)⟩
theorem AtB.trans {w W : World} {v v1 v2 : Value} (h : AtB w v v1) (hs : w.heap.size ≤ W.heap.size) (k : AtB W v1 v2) : AtB w v v2 := by
  rcases k with e | ⟨b, e, hb⟩
  · rcases h with e' | h'
    · exact .inl (e.trans e')
    · obtain ⟨b, e', hb⟩ := h'
      exact .inr ⟨b, e.trans e', hb⟩
  · exact .inr ⟨b, e, by omega⟩
theorem V_frB {w W : World} {P : Nat → Prop} {A : Value} {v v1 : Value} {base : Nat} {ps : List S27} (h : Kd.V k27 27 w base (fun k => P k ∧ some k ≠ v.ownBlock) A ps) (hf : FrB w W v) (hat : AtB w v v1) :
    Kd.V k27 27 W base (fun k => P k ∧ some k ≠ v1.ownBlock) A ps := by
  refine Kd.V_mono (Kd.V_step (Kd.V_bound h) (fun k hk hlt => hf.2 k hlt hk.1.2)) (fun k hk => ⟨hk.1.1, ?_⟩)
  rcases hat with e | ⟨b, e, hb⟩
  · rw [e]; exact hk.1.2
  · rw [e]; intro h; injection h with h; have := hk.2; omega
def PutPost (w0 w : World) (v : Value) (PP : Nat → Prop) (r : List S27) (e : Ending) (w' : World) : Prop :=
  ∃ v1, e = .returned v1 ∧ Kd.N k27 27 w' w0.heap.size PP v1 r ∧ Below w0.heap.size w0 w' ∧ FrB w w' v ∧ AtB w v v1
theorem enP1 : Enters Try.prog 40 := enters_of Try.func40 (by kernel_rfl) rfl
theorem put1_any (p : S27) (A5 : Option Addr) (c5 g : Nat) (xs : List S27) (w : World) (hg : w.heap[g]? = some (.cells #[.int .i64 p.f0, .int .u64 p.f1.f0, .int .u64 p.f1.f1, .int .u64 p.f1.f2, .int .u64 p.f1.f3, .slice A5 p.f2.length c5, .int .i64 p.f3, .int .i64 p.f4] 27 (0, 0)))
    (hr : Kd.C k27 w A5 p.f2.length p.f2) (hc : p.f2.length ≤ c5) : PredN 40 #[.pointer (some ⟨g, 0, none⟩)] (fun q => sameT p q) xs w := by
  intro x hx B5 d5 W hW hrx hcx
  have hgl := blk_lt hg
  have HG := zD (zC hg hW)
  have HS := zD (show ∀ U, Below W.heap.size W U → Calls Try.prog 41 #[ndV p A5 c5, ndV x B5 d5] U fun e w' => e = .returned (.bool (sameT p x)) ∧ Below U.heap.size U w' from
    fun U hU => same_any _ p x A5 B5 c5 d5 U (Nat.lt_succ_self _) (Kd.C_below (Kd.C_below hr hW) hU) hc (Kd.C_below hrx hU) hcx)
  have hgl2 : g < W.heap.size := by have := hW.size; omega
  clear hg hr hrx
  unfold ndV at HS ⊢
  have z0 := fun o : Obj => (zA (zC HG.out (box_below W o)) 0).trans (rfl : _ = some _)
  have z1 := fun o : Obj => (zA (zC HG.out (box_below W o)) 1).trans (rfl : _ = some _)
  have z2 := fun o : Obj => (zA (zC HG.out (box_below W o)) 2).trans (rfl : _ = some _)
  have z3 := fun o : Obj => (zA (zC HG.out (box_below W o)) 3).trans (rfl : _ = some _)
  have z4 := fun o : Obj => (zA (zC HG.out (box_below W o)) 4).trans (rfl : _ = some _)
  have z5 := fun o : Obj => (zA (zC HG.out (box_below W o)) 5).trans (rfl : _ = some _)
  have z6 := fun o : Obj => (zA (zC HG.out (box_below W o)) 6).trans (rfl : _ = some _)
  have z7 := fun o : Obj => (zA (zC HG.out (box_below W o)) 7).trans (rfl : _ = some _)
  go_enter Try.func40, Try.ntmps40
  go_wp2_with (go_at_call 41; refine (HS.out _ (box_below _ _)).mono ?_; rintro e w1 ⟨rfl, hb1⟩)
  go_ret
  exact ⟨rfl, zB (box_below _ _) hb1⟩
set_option maxHeartbeats 8000000 in
set_option maxRecDepth 100000 in
theorem put_any (n : Nat) : ∀ (kind : Int) (v : Value) (xs ps : List S27) (A : Option Addr) (c : Nat) (P1 P2 : Nat → Prop) (w0 w : World), cntL ps < n → okL ps = true → xs.length + cntL ps ≤ 1000000000 → Below w0.heap.size w0 w →
    Kd.N k27 27 w w0.heap.size P1 v xs → Kd.V k27 27 w w0.heap.size (fun k => P2 k ∧ some k ≠ v.ownBlock) (.slice A ps.length c) ps →
    Calls Try.prog 34 #[.int .i64 kind, v, .slice A ps.length c] w (PutPost w0 w v (fun k => P1 k ∨ P2 k ∨ w.heap.size ≤ k) (putL kind xs ps)) := by
  induction n with
  | zero => intro _ _ _ _ _ _ _ _ _ _ h; omega
  | succ n ih =>
    intro kind v xs ps A c P1 P2 w0 w hn hok hlen hb hx hp
    have hmax := Kd.C_max (Kd.V_reads' hp).2.2
    have IH := zD ih
    have HN0 := zD hn
    have HOK := zD (by rw [okL_all] at hok; simpa using hok : ∀ y ∈ ps, okT y = true)
    have HX := zD hx
    have HP := zD hp
    have HB := zD hb
    have HLEN := zD hlen
    obtain ⟨PP, hPP⟩ : ∃ PP : Nat → Prop, PP = (fun k => P1 k ∨ P2 k ∨ w.heap.size ≤ k) := ⟨_, rfl⟩
    rw [← hPP]
    have HPP := zD hPP
    clear ih hn hok hx hp hb hlen hPP
    go_enter Try.func34, Try.ntmps34
    go_wp2
    go_loopg [1, 8, 11, 19, 29, 37] ps.length (fun gg vk _ s11 _ _ _ wr => ∃ (xk : List S27) (kk : Nat), kk ≤ ps.length ∧ ps.length - kk ≤ gg ∧ s11 = .int .i64 kk ∧ Aside0 (putL kind xk (ps.drop kk) = putL kind xs ps) ∧ Aside0 (xk.length + cntL (ps.drop kk) ≤ 1000000000 ∧ cntL (ps.drop kk) ≤ cntL ps) ∧
      Aside0 (Kd.N k27 27 wr w0.heap.size PP vk xk) ∧ Aside0 (Kd.V k27 27 wr w0.heap.size (fun k => P2 k ∧ some k ≠ vk.ownBlock) (.slice A ps.length c) ps) ∧ Aside0 (Below w0.heap.size w0 wr) ∧ Aside0 (FrB w wr v) ∧ Aside0 (AtB w v vk))
    case atStart => exact ⟨xs, 0, Nat.zero_le _, by omega, rfl, ⟨by simp⟩, ⟨by simp; exact HLEN.out⟩, ⟨Kd.N_mono HX.out (fun k hk => by rw [HPP.out]; exact .inl hk)⟩, HP, HB, ⟨FrB.refl _ _⟩, ⟨.inl rfl⟩⟩
    case round =>
      clear HX HP HB
      obtain ⟨xk, kk, hkk, hg, rfl, HE, HL, HN, HV, HB, HF, HA⟩ := hrel
      by_cases hlt : kk < ps.length
      · have hltz : (kk : Int) < (ps.length : Int) := by omega
        obtain ⟨ad, A5, c5, e0, h0, h1, h2, h3, h4, h5, h6, h7, hl5, hi5⟩ := at_T27 (Kd.V_reads' HV.out).2.2 (kk : Int) (by omega) hltz
        cases e0
        obtain ⟨cs, hcl, hK, hcc⟩ := Kd.V_get HV.out z27 (kk : Int) (by omega) hltz
        obtain ⟨A6, c6, rfl, hl6, hF6⟩ := k27_openF hK
        have hv5 := hcc 5 _ rfl
        rw [add_field _ _ 5 (by omega)] at hv5
        replace hv5 := Option.some.inj (hv5.symm.trans h5)
        injection hv5 with hva _ hvc
        rw [hva] at hF6
        rw [hvc] at hl6
        have hVp : Kd.V k27 27 wr w0.heap.size (fun k => P2 k ∧ some k ≠ u1.ownBlock) (.slice A5 (rd_T27 ps kk).f2.length c5) (rd_T27 ps kk).f2 := Kd.V_mk hl6 hF6
        simp only [Int.toNat_natCast] at h0 h1 h2 h3 h4 h5 h6 h7
        have hget : ps[kk]? = some (rd_T27 ps kk) := by simp [rd_T27, List.getD_eq_getElem?_getD, List.getElem?_eq_getElem hlt]
        clear hva hvc hcc hK hcl hF6 hl6
        generalize rd_T27 ps kk = p at h0 h1 h2 h3 h4 h5 h6 h7 hl5 hi5 hVp hget
        have hdrop : ps.drop kk = p :: ps.drop (kk + 1) := by
          obtain ⟨hl, hpe⟩ := List.getElem?_eq_some_iff.1 hget
          rw [List.drop_eq_getElem_cons hl, hpe]
        have HMEM := zD (List.mem_of_getElem? hget)
        have HD := zD hdrop
        have HVP := zD hVp
        have HC5 := zD hl5
        have HI5 := zD hi5
        have HCNT := zD (show cntL (ps.drop kk) = cntT p + cntL (ps.drop (kk + 1)) by rw [hdrop, cntL])
        have HPUT := zD (show putL kind (putP kind xk p) (ps.drop (kk + 1)) = putL kind xs ps by rw [← HE.out, hdrop, putL])
        have HPLEN := zD (show (putP kind xk p).length + cntL (ps.drop (kk + 1)) ≤ 1000000000 ∧ cntL (ps.drop (kk + 1)) ≤ cntL ps from by
          have a1 := putP_len kind xk p; have a2 := HL.out.1; have a3 := HL.out.2; have a4 := HCNT.out; exact ⟨by omega, by omega⟩)
        have HBX := zD (fun o : Obj => box_below wr o)
        have rel : ∀ (W : World) (v1 : Value), Kd.N k27 27 W w0.heap.size PP v1 (putP kind xk p) → Below w0.heap.size w0 W → FrB wr W u1 → AtB wr u1 v1 →
            ∃ (xk : List S27) (kk2 : Nat), kk2 ≤ ps.length ∧ ps.length - kk2 ≤ ps.length - (kk + 1) ∧ (Value.int .i64 ((kk : Int) + 1)) = .int .i64 kk2 ∧ Aside0 (putL kind xk (ps.drop kk2) = putL kind xs ps) ∧ Aside0 (xk.length + cntL (ps.drop kk2) ≤ 1000000000 ∧ cntL (ps.drop kk2) ≤ cntL ps) ∧
              Aside0 (Kd.N k27 27 W w0.heap.size PP v1 xk) ∧ Aside0 (Kd.V k27 27 W w0.heap.size (fun k => P2 k ∧ some k ≠ v1.ownBlock) (.slice (some ad) ps.length c) ps) ∧ Aside0 (Below w0.heap.size w0 W) ∧ Aside0 (FrB w W v) ∧ Aside0 (AtB w v v1) :=
          fun W v1 a b d e => ⟨_, kk + 1, by omega, Nat.le_refl _, by go_num, HPUT, HPLEN, ⟨a⟩, ⟨V_frB HV.out d e⟩, ⟨b⟩, ⟨HF.out.trans d HA.out⟩, ⟨HA.out.trans HF.out.1 e⟩⟩
        have REL := zD rel
        clear hget hdrop hVp hl5 hi5 rel
        have HNU := zD (Kd.N_lt HN.out)
        have LIM := zD (show (xk.length + 1) * 80 ≤ 140737488355328 by have := HL.out.1; omega)
        by_cases c1 : p.f0 = kind
        · have b1 : (p.f0 == kind) = true := by simpa using c1
          have HE2 := zD (show putP kind xk p = putL kind xk p.f2 by rw [putP_eq, if_pos c1])
          have HCALL := zD (show ∀ W, Below wr.heap.size wr W → Calls Try.prog 34 #[.int .i64 kind, u1, .slice A5 p.f2.length c5] W (PutPost w0 W u1 (fun k => PP k ∨ P2 k ∨ W.heap.size ≤ k) (putL kind xk p.f2)) from
            fun W hW => IH.out kind u1 xk p.f2 A5 c5 PP P2 w0 W (by have a1 := HCNT.out; have a2 := cntT_eq p; have a3 := HN0.out; have a4 := HL.out.2; omega) (by have a1 := HOK.out p HMEM.out; rw [okT_eq] at a1; rw [okL_all]; simp only [Bool.and_eq_true] at a1; exact a1.2)
              (by have a1 := HCNT.out; have a2 := cntT_eq p; have a3 := HL.out.1; omega) (zB HB.out hW) (Kd.N_below HN.out hW) (Kd.V_below HVP.out hW))
          clear c1
          go_wp2_with (go_at_call 34; refine (HCALL.out _ (HBX.out _)).mono ?_; rintro e w1 ⟨v1, rfl, hN1, hB1, hF1, hA1⟩; have R := zD (REL.out w1 v1 (Kd.N_mono (HE2.out ▸ hN1) (fun k hk => by
            rcases hk with hk | hk | hk
            · exact hk
            · rw [HPP.out]; exact .inr (.inl hk)
            · rw [HPP.out]; exact .inr (.inr (by have := HF.out.1; simp at hk; omega)))) hB1 (FrB.trans (FrB.of_below u1 (HBX.out _)) hF1 (.inl rfl)) (AtB.trans (.inl rfl) (HBX.out _).size hA1)); clear hN1 hB1 hF1 hA1)
          go_roundg (ps.length - (kk + 1))
          case measure => omega
          case rel => exact R.out
        · have b1 : (p.f0 == kind) = false := by simpa using c1
          by_cases c2 : kind = 2 ∧ p.f0 = 0
          · have HE2 := zD (show putP kind xk p = xk by rw [putP_eq, if_neg c1, if_pos c2])
            obtain ⟨rfl, c3⟩ := c2
            have b3 : (p.f0 == 0) = true := by simpa using c3
            have R := zD (fun o => REL.out (wr.alloc o) u1 (by rw [HE2.out]; exact Kd.N_alloc HN.out o) (zB HB.out (HBX.out o)) (FrB.of_below u1 (HBX.out o)) (.inl rfl))
            clear c1 c3
            go_wp2
            go_roundg (ps.length - (kk + 1))
            case measure => omega
            case rel => exact R.out _
          · by_cases k2 : kind = 2
            · have c3 : ¬ p.f0 = 0 := fun h => c2 ⟨k2, h⟩
              have HE2 := zD (show putP kind xk p = xk ++ [p] by rw [putP_eq, if_neg c1, if_neg c2, if_neg (by rintro ⟨h, _⟩; omega)])
              subst k2
              have b3 : (p.f0 == 0) = false := by simpa using c3
              clear c1 c2 c3
              go_wp2_with ((with_reducible refine gate_builtin (b := .append) (xs := #[.tmp 15, .tmp 17]) rfl ?_); at_builtin; rw [show wr.heap.size + 1 = (wr.alloc (.cells #[.int .i64 p.f0, .int .u64 p.f1.f0, .int .u64 p.f1.f1, .int .u64 p.f1.f2, .int .u64 p.f1.f3, .slice A5 p.f2.length c5, .int .i64 p.f3, .int .i64 p.f4] 27)).heap.size by simp]; refine Kd.N_append k27 (w0 := w0) w0.heap.size rfl (.tmp 15) (.tmp 17) 25 27 (.agg #[(.int .i64 0), (.int .u64 0), (.int .u64 0), (.int .u64 0), (.int .u64 0), (.slice none 0 0), (.int .i64 0), (.int .i64 0)]) 80 rfl Try.underlying25 info27 rfl (by decide) (by omega) u1 xk p [.int .i64 p.f0, .int .u64 p.f1.f0, .int .u64 p.f1.f1, .int .u64 p.f1.f2, .int .u64 p.f1.f3, .slice A5 p.f2.length c5, .int .i64 p.f3, .int .i64 p.f4] PP (fun k => PP k ∧ some k ≠ u1.ownBlock) rfl rfl ?aP (fun _ hk => hk) ?aF ?aO ?aB ?aS ?aL ?_; (case aP => exact k27_mkF _ _ p HC5.out (Kd.V_F (Kd.V_mono (Kd.V_below HVP.out (HBX.out _)) (fun k hk => ⟨by rw [HPP.out]; exact .inr (.inl hk.1), hk.2⟩)))); (case aF => exact fun k hk => by rw [HPP.out]; exact .inr (.inr (Nat.le_trans HF.out.1 (Nat.le_trans (HBX.out _).size hk)))); (case aO => exact Kd.N_below HN.out (HBX.out _)); (case aB => exact zB HB.out (HBX.out _)); (case aS => exact Nat.le_trans HB.out.size (HBX.out _).size); (case aL => exact LIM.out); intro v1 w9 ho hbb hg9 hat; have R := zD (REL.out w9 v1 ((by rw [HE2.out]; exact ho)) hbb (FrB.trans (FrB.of_below u1 (HBX.out _)) (FrB.of_grown hg9) (.inl rfl)) (AtB.trans (.inl rfl) (HBX.out _).size hat)); clear ho hbb hg9 hat)
              go_roundg (ps.length - (kk + 1))
              case measure => omega
              case rel => exact R.out
            · have b2 : (kind == 2) = false := by simpa using k2
              by_cases k3 : kind = 3
              · subst k3
                have HV1 := zD (show ∀ W, Below wr.heap.size wr W → Calls Try.prog 32 #[ndV p A5 c5] W fun e w' => e = .returned (.bool (voidT p)) ∧ Below W.heap.size W w' from
                  fun W hW => void_any _ p A5 c5 W (Nat.lt_succ_self _) (HOK.out p HMEM.out) (Kd.C_below HI5.out hW) HC5.out)
                unfold ndV at HV1
                cases hv : voidT p with
                | true =>
                  have HE2 := zD (show putP 3 xk p = xk by rw [putP_eq, if_neg c1, if_neg c2, if_pos ⟨rfl, by rw [hv]; rfl⟩])
                  rw [hv] at HV1
                  clear c1 c2 hv k2 b2
                  go_wp2_with (go_at_call 32; refine (HV1.out _ (HBX.out _)).mono ?_; rintro e w1 ⟨rfl, hb1⟩; have R := zD (REL.out w1 u1 (by rw [HE2.out]; exact Kd.N_below (Kd.N_alloc HN.out _) hb1) (zB HB.out (zB (HBX.out _) hb1)) (FrB.of_below u1 (zB (HBX.out _) hb1)) (.inl rfl)))
                  go_roundg (ps.length - (kk + 1))
                  case measure => omega
                  case rel => exact R.out
                | false =>
                  rw [hv] at HV1
                  have HCT := zD (show ∀ W, Below (wr.alloc (.cells #[.int .i64 p.f0, .int .u64 p.f1.f0, .int .u64 p.f1.f1, .int .u64 p.f1.f2, .int .u64 p.f1.f3, .slice A5 p.f2.length c5, .int .i64 p.f3, .int .i64 p.f4] 27)).heap.size (wr.alloc (.cells #[.int .i64 p.f0, .int .u64 p.f1.f0, .int .u64 p.f1.f1, .int .u64 p.f1.f2, .int .u64 p.f1.f3, .slice A5 p.f2.length c5, .int .i64 p.f3, .int .i64 p.f4] 27)) W →
                      Calls Try.prog 30 #[u1, .func (.func 40) #[] #[.pointer (some ⟨wr.heap.size, 0, none⟩)]] W fun e w' => e = .returned (.bool (xk.any fun q => sameT p q)) ∧ Below W.heap.size W w' from fun W hW => by
                    obtain ⟨A1, cc, he⟩ := Kd.N_slice HN.out
                    have hN' := Kd.N_below (Kd.N_alloc HN.out (.cells #[.int .i64 p.f0, .int .u64 p.f1.f0, .int .u64 p.f1.f1, .int .u64 p.f1.f2, .int .u64 p.f1.f3, .slice A5 p.f2.length c5, .int .i64 p.f3, .int .i64 p.f4] 27)) hW
                    rw [he] at hN' ⊢
                    exact contains_any _ _ _ enP1 A1 cc xk W (Kd.N_reads' hN').2.2 (put1_any p A5 c5 wr.heap.size xk W (zC (heap_alloc_new wr _) hW) (Kd.C_below HI5.out (zB (HBX.out _) hW)) HC5.out))
                  cases ha : (xk.any fun q => sameT p q) with
                  | true =>
                    have HE2 := zD (show putP 3 xk p = xk by rw [putP_eq, if_neg c1, if_neg c2, if_pos ⟨rfl, by rw [hv, ha]; rfl⟩])
                    rw [ha] at HCT
                    clear c1 c2 hv ha k2 b2
                    go_wp2_with (first
                      | (go_at_call 32; refine (HV1.out _ (HBX.out _)).mono ?_; rintro e w1 ⟨rfl, hb1⟩)
                      | (go_at_call 30; refine (HCT.out w1 hb1).mono ?_; rintro e w2 ⟨rfl, hb2⟩; have R := zD (REL.out w2 u1 (by rw [HE2.out]; exact Kd.N_below (Kd.N_below (Kd.N_alloc HN.out _) hb1) hb2) (zB HB.out (zB (zB (HBX.out _) hb1) hb2)) (FrB.of_below _ (zB (zB (HBX.out _) hb1) hb2)) (.inl rfl))))
                    go_roundg (ps.length - (kk + 1))
                    case measure => omega
                    case rel => exact R.out
                  | false =>
                    have HE2 := zD (show putP 3 xk p = xk ++ [p] by rw [putP_eq, if_neg c1, if_neg c2, if_neg (by rintro ⟨_, h⟩; rw [hv, ha] at h; cases h)])
                    rw [ha] at HCT
                    clear c1 c2 hv ha k2 b2
                    go_wp2_with (first
                      | (go_at_call 32; refine (HV1.out _ (HBX.out _)).mono ?_; rintro e w1 ⟨rfl, hb1⟩)
                      | (go_at_call 30; refine (HCT.out w1 hb1).mono ?_; rintro e w2 ⟨rfl, hb2⟩; have z0 := (zA (zC (heap_alloc_new wr _) (zB hb1 hb2)) 0).trans (rfl : _ = some _); have z1 := (zA (zC (heap_alloc_new wr _) (zB hb1 hb2)) 1).trans (rfl : _ = some _); have z2 := (zA (zC (heap_alloc_new wr _) (zB hb1 hb2)) 2).trans (rfl : _ = some _); have z3 := (zA (zC (heap_alloc_new wr _) (zB hb1 hb2)) 3).trans (rfl : _ = some _); have z4 := (zA (zC (heap_alloc_new wr _) (zB hb1 hb2)) 4).trans (rfl : _ = some _); have z5 := (zA (zC (heap_alloc_new wr _) (zB hb1 hb2)) 5).trans (rfl : _ = some _); have z6 := (zA (zC (heap_alloc_new wr _) (zB hb1 hb2)) 6).trans (rfl : _ = some _); have z7 := (zA (zC (heap_alloc_new wr _) (zB hb1 hb2)) 7).trans (rfl : _ = some _))
                      | ((with_reducible refine gate_builtin (b := .append) (xs := #[.tmp 15, .tmp 17]) rfl ?_); at_builtin; refine Kd.N_append k27 (w0 := w0) w0.heap.size rfl (.tmp 15) (.tmp 17) 25 27 (.agg #[(.int .i64 0), (.int .u64 0), (.int .u64 0), (.int .u64 0), (.int .u64 0), (.slice none 0 0), (.int .i64 0), (.int .i64 0)]) 80 rfl Try.underlying25 info27 rfl (by decide) (by omega) u1 xk p [.int .i64 p.f0, .int .u64 p.f1.f0, .int .u64 p.f1.f1, .int .u64 p.f1.f2, .int .u64 p.f1.f3, .slice A5 p.f2.length c5, .int .i64 p.f3, .int .i64 p.f4] PP (fun k => PP k ∧ some k ≠ u1.ownBlock) rfl rfl ?aP (fun _ hk => hk) ?aF ?aO ?aB ?aS ?aL ?_; (case aP => exact k27_mkF _ _ p HC5.out (Kd.V_F (Kd.V_mono (Kd.V_below HVP.out (zB (zB (HBX.out _) hb1) hb2)) (fun k hk => ⟨by rw [HPP.out]; exact .inr (.inl hk.1), hk.2⟩)))); (case aF => exact fun k hk => by rw [HPP.out]; exact .inr (.inr (Nat.le_trans HF.out.1 (Nat.le_trans (zB (zB (HBX.out _) hb1) hb2).size hk)))); (case aO => exact Kd.N_below HN.out (zB (zB (HBX.out _) hb1) hb2)); (case aB => exact zB HB.out (zB (zB (HBX.out _) hb1) hb2)); (case aS => exact Nat.le_trans HB.out.size (zB (zB (HBX.out _) hb1) hb2).size); (case aL => exact LIM.out); intro v1 w9 ho hbb hg9 hat; have R := zD (REL.out w9 v1 ((by rw [HE2.out]; exact ho)) hbb (FrB.trans (FrB.of_below u1 (zB (zB (HBX.out _) hb1) hb2)) (FrB.of_grown hg9) (.inl rfl)) (AtB.trans (.inl rfl) (zB (zB (HBX.out _) hb1) hb2).size hat)); clear ho hbb hg9 hat))
                    go_roundg (ps.length - (kk + 1))
                    case measure => omega
                    case rel => exact R.out
              · have HE2 := zD (show putP kind xk p = xk ++ [p] by rw [putP_eq, if_neg c1, if_neg c2, if_neg (fun h => k3 h.1)])
                have b3 : (kind == 3) = false := by simpa using k3
                clear c1 c2 k2 k3
                go_wp2_with ((with_reducible refine gate_builtin (b := .append) (xs := #[.tmp 15, .tmp 17]) rfl ?_); at_builtin; rw [show wr.heap.size + 1 = (wr.alloc (.cells #[.int .i64 p.f0, .int .u64 p.f1.f0, .int .u64 p.f1.f1, .int .u64 p.f1.f2, .int .u64 p.f1.f3, .slice A5 p.f2.length c5, .int .i64 p.f3, .int .i64 p.f4] 27)).heap.size by simp]; refine Kd.N_append k27 (w0 := w0) w0.heap.size rfl (.tmp 15) (.tmp 17) 25 27 (.agg #[(.int .i64 0), (.int .u64 0), (.int .u64 0), (.int .u64 0), (.int .u64 0), (.slice none 0 0), (.int .i64 0), (.int .i64 0)]) 80 rfl Try.underlying25 info27 rfl (by decide) (by omega) u1 xk p [.int .i64 p.f0, .int .u64 p.f1.f0, .int .u64 p.f1.f1, .int .u64 p.f1.f2, .int .u64 p.f1.f3, .slice A5 p.f2.length c5, .int .i64 p.f3, .int .i64 p.f4] PP (fun k => PP k ∧ some k ≠ u1.ownBlock) rfl rfl ?aP (fun _ hk => hk) ?aF ?aO ?aB ?aS ?aL ?_; (case aP => exact k27_mkF _ _ p HC5.out (Kd.V_F (Kd.V_mono (Kd.V_below HVP.out (HBX.out _)) (fun k hk => ⟨by rw [HPP.out]; exact .inr (.inl hk.1), hk.2⟩)))); (case aF => exact fun k hk => by rw [HPP.out]; exact .inr (.inr (Nat.le_trans HF.out.1 (Nat.le_trans (HBX.out _).size hk)))); (case aO => exact Kd.N_below HN.out (HBX.out _)); (case aB => exact zB HB.out (HBX.out _)); (case aS => exact Nat.le_trans HB.out.size (HBX.out _).size); (case aL => exact LIM.out); intro v1 w9 ho hbb hg9 hat; have R := zD (REL.out w9 v1 ((by rw [HE2.out]; exact ho)) hbb (FrB.trans (FrB.of_below u1 (HBX.out _)) (FrB.of_grown hg9) (.inl rfl)) (AtB.trans (.inl rfl) (HBX.out _).size hat)); clear ho hbb hg9 hat)
                go_roundg (ps.length - (kk + 1))
                case measure => omega
                case rel => exact R.out
      · have hltz : ¬ (kk : Int) < (ps.length : Int) := by omega
        have HK := zD (show kk = ps.length by omega)
        go_wp2
        go_ret
        have h := HE.out
        rw [HK.out, List.drop_length, putL] at h
        exact ⟨u1, rfl, h ▸ HN.out, HB.out, HF.out, HA.out⟩
def nilN : Option Addr → Nat
  | none => 0
  | some _ => 1
def core_put.f (a0 : Int) (l1 : List S27) (l2 : List S27) : Option (List S27) := if l1 = [] ∧ okL l2 = true ∧ cntL l2 ≤ 1000000000 then some (putL a0 [] l2) else none
theorem core_put.calls (a0 : Int) (A1 : Option Addr) (c1 : Nat) (l1 : List S27) (P2_ : Nat → Prop) (A2 : Option Addr) (c2 : Nat) (l2 : List S27) (r : List S27) (w : World) (hr1 : Kd.C k27 w A1 l1.length l1) (hc1 : nilN A1 + c1 + l1.length ≤ l1.length) (hs2 : Kd.V k27 27 w w.heap.size (fun k_ => P2_ k_) (.slice A2 l2.length c2) l2) (h : core_put.f a0 l1 l2 = some r) :
    Calls Try.prog 34 #[.int .i64 a0, .slice A1 l1.length c1, .slice A2 l2.length c2] w fun e w' => ∃ v0_ : Value, e = .returned (v0_) ∧ Kd.N k27 27 w' w.heap.size (fun k_ => (P2_ k_ ∨ w.heap.size ≤ k_)) v0_ r ∧ Below w.heap.size w w' := by
  unfold core_put.f at h
  cases A1 with
  | some a => simp only [nilN] at hc1; omega
  | none =>
    obtain rfl : c1 = 0 := by simp only [nilN] at hc1; omega
    by_cases hk : l1 = [] ∧ okL l2 = true ∧ cntL l2 ≤ 1000000000
    · rw [if_pos hk] at h
      obtain rfl := Option.some.inj h
      obtain ⟨rfl, h1, h2⟩ := hk
      refine (put_any _ a0 (.slice none 0 0) [] l2 A2 c2 (fun _ => False) P2_ w w (Nat.lt_succ_self _) h1 (by simpa using h2) (Below.refl _ _) (Kd.N_nil _ _ _ _ _) (Kd.V_mono hs2 (fun k hk => ⟨hk, by simp [Value.ownBlock]⟩))).mono ?_
      rintro e w' ⟨v1, rfl, hN, hb, _, _⟩
      exact ⟨v1, rfl, Kd.N_mono hN (fun k hk => by rcases hk with hk | hk | hk; exact hk.elim; exact .inl hk; exact .inr hk), hb⟩
    · rw [if_neg hk] at h
      cases h


-- (its text stands with another function's)


end Go.Proofs.Ytlnhiogpjdhhbaa.P
