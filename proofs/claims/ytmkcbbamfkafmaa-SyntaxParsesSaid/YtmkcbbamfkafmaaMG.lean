/- The document's reader: an atom, walked: an open bracket. Written by wip/gen_rd9.py. -/
import Derived.Test.YtmkcbbamfkafmaaMF
import Derived.Deep.LoopGhost
import Derived.Deep.DeepCutAuto
import Derived.Test.YtmkcbbamfkafmaaME
namespace Go.Proofs.Ytmkcbbamfkafmaa.P
open Go.RowKit Go.Proofs.Ytmkcbbamfkafmaa Go.Proofs.YtmkcbbamfkafmaaW.PrintWords Go.Proofs.YtmkcbbamfkafmaaW.PrintLast Go.Proofs.YtmkcbbamfkafmaaW.PrintMore
set_option linter.unusedVariables false
set_option linter.unusedSimpArgs false
attribute [local go_sem ↓] loadS
/-- An open bracket's node, kept. -/
structure ParK (w w1 w5 W : World) (R : Nat) (s : ByteArray) (st : Sc) (G : Nat) (cs : Array Value) : Prop where
  rs : ResN w W R s st
  blk : W.heap[G]? = some (.cells cs 28)
  keep : ∀ k, w1.heap.size ≤ k → k < w5.heap.size → W.heap[k]? = w5.heap[k]?
  hG : w5.heap.size ≤ G
  h1 : w.heap.size < w1.heap.size
  h5 : w1.heap.size ≤ w5.heap.size
theorem ParK.call {w w1 w5 W W' : World} {R G : Nat} {s : ByteArray} {st st' : Sc} {cs : Array Value} (h : ParK w w1 w5 W R s st G cs) (hr : RdR W' R s st') (hf : Fr W.heap.size R W W') : ParK w w1 w5 W' R s st' G cs := by
  have a1 := h.rs.lt
  have a2 := h.hG
  have a3 := h.h1
  have a4 := h.h5
  have a5 := blk_lt h.blk
  exact ⟨h.rs.call hr hf, (hf.block _ a5 (by omega)).trans h.blk, fun k hk hl => (hf.block k (by omega) (by omega)).trans (h.keep k hk hl), a2, a3, a4⟩
theorem ParK.start {w w1 w5 : World} {R : Nat} {s : ByteArray} {st : Sc} (cs : Array Value) (h : ResN w w5 R s st) (h1 : w.heap.size < w1.heap.size) (h5 : w1.heap.size ≤ w5.heap.size) : ParK w w1 w5 (w5.alloc (.cells cs 28)) R s st w5.heap.size cs :=
  ⟨h.below (box_belowS _ _), heap_alloc_new w5 _, fun k hk hl => (box_belowS w5 (.cells cs 28)).block k hl, Nat.le_refl _, h1, h5⟩
section
variable (R : Nat) (s : ByteArray) (st : Sc) (w : World) (h : RdR w R s st) (hg : goes s st) (h41 : gb s st.at_ ≠ 41) (h124 : gb s st.at_ ≠ 124) (hbad : badC (gb s st.at_) = false)
include h hg h41 h124 hbad
set_option maxHeartbeats 4000000 in
theorem atom_open (hA : AltH R s (s.size - st.at_)) (h40 : gb s st.at_ = 40) : AtomC R s st w := by
  obtain ⟨V, hV⟩ : ∃ V, V = altF s [] [] st.adv := ⟨_, rfl⟩
  have HAV : Hid (atomV s st = ((V.1, true), mustS s V.2 41)) := Lib.hid (by unfold atomV; rw [if_pos ⟨hg, h41, h124⟩, if_neg (by rw [hbad]; decide), if_pos h40, hV])
  have hAlt : ∀ W, RdR W R s st.adv → AltC R s st.adv W := fun W hW => hA st.adv W (by have := hg.2; show s.size - (st.at_ + 1) < _; omega) hW
  unfold AltC at hAlt
  rw [← hV] at hAlt
  obtain ⟨⟨tk, ⟨t0, t1, t2, t3⟩, tps, tlo, thi⟩, st5⟩ := V
  unfold ndV at hAlt
  dsimp only at HAV hAlt
  have HALT := Lib.hid hAlt
  have hR0 := ResN.start h
  have hnx := rr_next R s st _ hR0.rd
  rw [nextV_go hg] at hnx
  have hr := gb_range s st.at_
  have hB := atB s _ hr.1 hr.2 h41 h124
  skip
  rw [hbad] at hB
  have hat := hg.2
  have hsz := h.hsz
  have he0 := hg.1
  rw [h40] at hnx hB
  have hw8 : IntKind.u8.wrap 40 = 40 := by rw [IntKind.wrap_u8]; rfl
  clear h40
  have hcr := Lib.hid (And.intro hB.lo hB.hi)
  have i1 := hB.i1
  have i2 := hB.i2
  obtain ⟨a, ha⟩ : ∃ a, a = st.at_ := ⟨_, rfl⟩
  obtain ⟨p, hpp⟩ : ∃ p : Nat, p = a + 1 := ⟨_, rfl⟩
  have hwr : IntKind.i64.wrap ((a : Int) + 1) = (p : Int) := by rw [IntKind.wrap_i64]; omega
  have HPA := Lib.hid (show p = st.at_ + 1 by omega)
  have HPL := Lib.hid (show st.at_ + 1 ≤ s.size by omega)
  have HA := Lib.hid ha
  have HE0 := Lib.hid he0
  unfold AtomC
  clear hA hAlt hV h hg h41 h124 hbad hr hB hat hsz ha hpp he0
  go_enter Try.func55, Try.ntmps55
  go_wp2_with fail
  refine hnx.mono ?_
  rintro x w2 ⟨rfl, hr2, hf2⟩
  have RS2 := hR0.call hr2 hf2
  clear hnx hR0 hr2 hf2
  go_wp2_with fail
  refine (i1 w2).mono ?_
  rintro x w3 ⟨rfl, hb3⟩
  have RS3 := RS2.below hb3
  clear RS2 i1 hb3
  go_wp2_with fail
  refine (i2 w3).mono ?_
  rintro x w4 ⟨rfl, hb4⟩
  have RS4 := RS3.below hb4
  obtain ⟨c0, c1, c2, c3⟩ := RS4.rd.cells
  have f1 := RS4.rd.froz
  rw [← HA.out] at c1
  have HRA := Lib.hid (HPA.out ▸ RS4.adv HPL.out : ResN w (w4.setCell ⟨R, 1, none⟩ (.int .i64 (p : Int))) R s st.adv)
  clear RS3 i2 hb4 RS4
  have halt := HALT.out (w4.setCell ⟨R, 1, none⟩ (.int .i64 (p : Int))) HRA.out.rd
  have hw41 : w.heap.size < (w4.setCell ⟨R, 1, none⟩ (.int .i64 (p : Int))).heap.size := blk_lt HRA.out.res
  have HW41 := Lib.hid hw41
  clear HALT hw41
  go_wp2_with fail
  refine halt.mono ?_
  rintro x w5 ⟨A, cc, rfl, hFN, hr5, hf5⟩
  have HRS5 := Lib.hid (HRA.out.call hr5 hf5)
  have HFN := Lib.hid hFN
  have HPK := Lib.hid (ParK.start (w1 := w4.setCell ⟨R, 1, none⟩ (.int .i64 (p : Int))) #[.int .i64 tk, .int .u64 t0, .int .u64 t1, .int .u64 t2, .int .u64 t3, .slice A tps.length cc, .int .i64 tlo, .int .i64 thi] HRS5.out HW41.out hf5.size)
  clear halt hFN hr5 hf5 c0 c1 c2 c3 f1
  cases hb : isB s st5 41 with
  | true =>
    have htk := rr_yes R s st5 (w5.alloc (.cells #[.int .i64 tk, .int .u64 t0, .int .u64 t1, .int .u64 t2, .int .u64 t3, .slice A tps.length cc, .int .i64 tlo, .int .i64 thi] 28)) 41 (by decide) (by decide) HPK.out.rs.rd hb
    have HM : Hid (mustS s st5 41 = st5.adv) := Lib.hid (by unfold mustS; rw [if_pos hb])
    clear hb
    go_wp2_with fail
    refine htk.mono ?_
    rintro x w6 ⟨rfl, hr6, hf6⟩
    have PK := HPK.out.call hr6 hf6
    obtain ⟨v0, v1, v2, v3, v4, v5, v6, v7⟩ := n_cells PK.rs.res
    obtain ⟨q0, q1, q2, q3, q4, q5, q6, q7⟩ := n_froz PK.rs.res
    obtain ⟨b0, b1, b2, b3, b4, b5, b6, b7⟩ := n_cells PK.blk
    have hgG : ¬ w.heap.size = w5.heap.size := by have := PK.h1; have := PK.h5; omega
    have hGg : ¬ w5.heap.size = w.heap.size := by have := PK.h1; have := PK.h5; omega
    obtain ⟨G, hG⟩ : ∃ G, G = w5.heap.size := ⟨_, rfl⟩
    have HPKL := Lib.hid PK
    have HK := Lib.hid HPK
    clear PK hr6 hf6 HPK
    go_wp2_with fail
    refine post_row_one2 (g := w.heap.size) (cs := #[.int .i64 tk, .int .u64 t0, .int .u64 t1, .int .u64 t2, .int .u64 t3, .slice A tps.length cc, .int .i64 tlo, .int .i64 thi]) (t := 28) (fr := (0, 0)) (x := .bool true) Try.results55 rfl (blk_set8 HPKL.out.rs.res) Try.underlying28 (by rfl) (by kernel_rfl) rfl rfl ?_
    have hlt := HPKL.out.rs.lt
    rw [HAV.out, HM.out]
    refine ⟨A, cc, rfl, HFN.out.mv (Nat.le_of_lt HW41.out) (fun k hk hl => ?_), rd_set8 HPKL.out.rs.rd (by omega) _ _ _ _ _ _ _ _, fr_set8 HPKL.out.rs.fr (Nat.le_refl _) _ _ _ _ _ _ _ _⟩
    refine ((far_resN _ w.heap.size _ _ _ _ _ _ _ _).2 k ?_).trans (HPKL.out.keep k hk hl)
    have := HW41.out
    omega
  | false =>
    have htk := rr_no R s st5 (w5.alloc (.cells #[.int .i64 tk, .int .u64 t0, .int .u64 t1, .int .u64 t2, .int .u64 t3, .slice A tps.length cc, .int .i64 tlo, .int .i64 thi] 28)) 41 (by decide) (by decide) HPK.out.rs.rd hb
    have HM : Hid (mustS s st5 41 = st5.fail st5.at_ 2) := Lib.hid (by unfold mustS; rw [if_neg (by rw [hb]; decide)])
    clear hb
    go_wp2_with fail
    refine htk.mono ?_
    rintro x w6 ⟨rfl, hr6, hf6⟩
    have PK6 := HPK.out.call hr6 hf6
    obtain ⟨d0, d1, d2, d3⟩ := PK6.rs.rd.cells
    have hfl := rr_fail R s st5 w6 (st5.at_ : Int) 2 PK6.rs.rd
    have HPK6 := Lib.hid PK6
    clear htk hr6 hf6 PK6
    go_wp2_with fail
    refine hfl.mono ?_
    rintro x w7 ⟨rfl, hr6, hf6⟩
    have PK := HPK6.out.call hr6 hf6
    clear hfl d0 d1 d2 d3
    obtain ⟨v0, v1, v2, v3, v4, v5, v6, v7⟩ := n_cells PK.rs.res
    obtain ⟨q0, q1, q2, q3, q4, q5, q6, q7⟩ := n_froz PK.rs.res
    obtain ⟨b0, b1, b2, b3, b4, b5, b6, b7⟩ := n_cells PK.blk
    have hgG : ¬ w.heap.size = w5.heap.size := by have := PK.h1; have := PK.h5; omega
    have hGg : ¬ w5.heap.size = w.heap.size := by have := PK.h1; have := PK.h5; omega
    obtain ⟨G, hG⟩ : ∃ G, G = w5.heap.size := ⟨_, rfl⟩
    have HPKL := Lib.hid PK
    have HK := Lib.hid HPK
    clear PK hr6 hf6 HPK
    go_wp2_with fail
    refine post_row_one2 (g := w.heap.size) (cs := #[.int .i64 tk, .int .u64 t0, .int .u64 t1, .int .u64 t2, .int .u64 t3, .slice A tps.length cc, .int .i64 tlo, .int .i64 thi]) (t := 28) (fr := (0, 0)) (x := .bool true) Try.results55 rfl (blk_set8 HPKL.out.rs.res) Try.underlying28 (by rfl) (by kernel_rfl) rfl rfl ?_
    have hlt := HPKL.out.rs.lt
    rw [HAV.out, HM.out]
    refine ⟨A, cc, rfl, HFN.out.mv (Nat.le_of_lt HW41.out) (fun k hk hl => ?_), rd_set8 HPKL.out.rs.rd (by omega) _ _ _ _ _ _ _ _, fr_set8 HPKL.out.rs.fr (Nat.le_refl _) _ _ _ _ _ _ _ _⟩
    refine ((far_resN _ w.heap.size _ _ _ _ _ _ _ _).2 k ?_).trans (HPKL.out.keep k hk hl)
    have := HW41.out
    omega
end
end Go.Proofs.Ytmkcbbamfkafmaa.P
/- The document's reader: an atom, walked: every byte. Written by wip/gen_rd10.py. -/
namespace Go.Proofs.Ytmkcbbamfkafmaa.P
open Go.RowKit Go.Proofs.Ytmkcbbamfkafmaa Go.Proofs.YtmkcbbamfkafmaaW.PrintWords Go.Proofs.YtmkcbbamfkafmaaW.PrintLast Go.Proofs.YtmkcbbamfkafmaaW.PrintMore
set_option linter.unusedVariables false
set_option linter.unusedSimpArgs false
attribute [local go_sem ↓] loadS
/-- Every byte: the marks. -/
structure DotK (w W : World) (R : Nat) (s : ByteArray) (st : Sc) (H k : Nat) : Prop where
  rs : ResN w W R s st
  has : W.rowIs H 82 256 (fun q => .bool (decide (q < k)))
  ne : w.heap.size < H
theorem DotK.put {w W : World} {R H k : Nat} {s : ByteArray} {st : Sc} (h : DotK w W R s st H k) (hk : k < 256) : DotK w (W.setCell ⟨H, k, none⟩ (.bool true)) R s st H (k + 1) := by
  have h1 := h.ne
  have h2 := h.rs.lt
  refine ⟨⟨h.rs.rd.keep (Below.heap_setCell _ _ _ _ (by show R ≠ H; omega)), (Below.heap_setCell _ _ _ _ (by show w.heap.size ≠ H; omega)).trans h.rs.res, h.rs.fr.setCell (p := ⟨H, k, none⟩) (.inl (by show w.heap.size ≤ H; omega)) _, h2⟩, (h.has.set k _).congr fun q hq => ?_, h1⟩
  by_cases e : q = k
  · rw [if_pos e, decide_eq_true (show q < k + 1 by omega)]
  · rw [if_neg e]
    congr 1
    exact decide_eq_decide.2 ⟨fun _ => by omega, fun _ => by omega⟩
theorem DotK.start {w W : World} {R : Nat} {s : ByteArray} {st : Sc} {Z : Array Value} (h : ResN w W R s st) (hZ : Z.size = 256) (hf : ∀ i, i < 256 → Z[i]? = some (Value.bool false)) : DotK w (W.alloc (.cells Z 82)) R s st W.heap.size 0 :=
  ⟨h.below (box_belowS _ _), (row_box W Z _ hZ hf), blk_lt h.res⟩
section
variable (R : Nat) (s : ByteArray) (st : Sc) (w : World) (h : RdR w R s st) (hg : goes s st) (h41 : gb s st.at_ ≠ 41) (h124 : gb s st.at_ ≠ 124) (hbad : badC (gb s st.at_) = false)
include h hg h41 h124 hbad
set_option maxHeartbeats 4000000 in
theorem atom_dot (h46 : gb s st.at_ = 46) : AtomC R s st w := by
  have HAV : Hid (atomV s st = (((atomE s (gb s st.at_) st).1, true), (atomE s (gb s st.at_) st).2)) := Lib.hid (by unfold atomV; rw [if_pos ⟨hg, h41, h124⟩, if_neg (by rw [hbad]; decide), if_neg (by rw [h46]; decide)])
  have HAE : Hid (atomE s (gb s st.at_) st = (setN (inR 0 255), st.adv)) := Lib.hid (by unfold atomE; rw [if_neg (by rw [h46]; decide), if_pos h46])
  have hz82 := zero82
  obtain ⟨Z, hZ⟩ : ∃ Z, Z = Array.replicate 256 (Value.bool false) := ⟨_, rfl⟩
  rw [← hZ] at hz82
  have HZS : Hid (Z.size = 256) := Lib.hid (by rw [hZ]; simp)
  have HZF : Hid (∀ i, i < 256 → Z[i]? = some (Value.bool false)) := Lib.hid fun i h => by rw [hZ]; simp [h]
  obtain ⟨FV, hFV⟩ : ∃ FV : Nat → Bool, FV = inR 0 255 := ⟨_, rfl⟩
  rw [← hFV] at HAE
  have HFV := Lib.hid hFV
  clear hZ
  have hR0 := ResN.start h
  have hnx := rr_next R s st _ hR0.rd
  rw [nextV_go hg] at hnx
  have hr := gb_range s st.at_
  have hB := atB s _ hr.1 hr.2 h41 h124
  skip
  rw [hbad] at hB
  have hat := hg.2
  have hsz := h.hsz
  have he0 := hg.1
  rw [h46] at hnx hB
  have hw8 : IntKind.u8.wrap 46 = 46 := by rw [IntKind.wrap_u8]; rfl
  clear h46
  have hcr := Lib.hid (And.intro hB.lo hB.hi)
  have i1 := hB.i1
  have i2 := hB.i2
  obtain ⟨a, ha⟩ : ∃ a, a = st.at_ := ⟨_, rfl⟩
  obtain ⟨p, hpp⟩ : ∃ p : Nat, p = a + 1 := ⟨_, rfl⟩
  have hwr : IntKind.i64.wrap ((a : Int) + 1) = (p : Int) := by rw [IntKind.wrap_i64]; omega
  have HPA := Lib.hid (show p = st.at_ + 1 by omega)
  have HPL := Lib.hid (show st.at_ + 1 ≤ s.size by omega)
  have HA := Lib.hid ha
  have HE0 := Lib.hid he0
  unfold AtomC
  clear hFV h hg h41 h124 hbad hr hB hat hsz ha hpp he0
  go_enter Try.func55, Try.ntmps55
  go_wp2_with fail
  refine hnx.mono ?_
  rintro x w2 ⟨rfl, hr2, hf2⟩
  have RS2 := hR0.call hr2 hf2
  clear hnx hR0 hr2 hf2
  go_wp2_with fail
  refine (i1 w2).mono ?_
  rintro x w3 ⟨rfl, hb3⟩
  have RS3 := RS2.below hb3
  clear RS2 i1 hb3
  go_wp2_with fail
  refine (i2 w3).mono ?_
  rintro x w4 ⟨rfl, hb4⟩
  have RS4 := RS3.below hb4
  obtain ⟨c0, c1, c2, c3⟩ := RS4.rd.cells
  have f1 := RS4.rd.froz
  rw [← HA.out] at c1
  have HRA := Lib.hid (HPA.out ▸ RS4.adv HPL.out : ResN w (w4.setCell ⟨R, 1, none⟩ (.int .i64 (p : Int))) R s st.adv)
  clear RS3 i2 hb4 RS4
  have hK0 := DotK.start HRA.out HZS.out HZF.out
  rw [show (w4.setCell ⟨R, 1, none⟩ (.int .i64 (p : Int))).heap.size = w4.heap.size by simp] at hK0
  have HK0 := Lib.hid hK0
  clear hK0
  go_wp2_with fail
  clear c0 c1 c2 c3 f1
  go_loopg [7] 257 (fun gg s9 wi => ∃ k : Nat, k ≤ 256 ∧ 256 - k + 1 ≤ gg ∧ s9 = .int .i64 k ∧ DotK w wi R s st.adv w4.heap.size k)
  case atStart => exact ⟨0, by omega, by omega, rfl, HK0.out⟩
  case round =>
    obtain ⟨k, k1, k2, rfl, hK⟩ := hrel
    clear HK0
    by_cases hgo : k < 256
    · have hkl : (k : Int) < 256 := by omega
      have hPP := hK.put hgo
      have HPP := Lib.hid hPP
      have hce := hK.has.cell hgo
      have f1 := hK.has.frozen k
      clear hPP hK
      go_wp2
      go_roundg (256 - k)
      case measure => omega
      case rel => exact ⟨k + 1, by omega, by omega, by go_num, HPP.out⟩
    · have hk : k = 256 := by omega
      subst hk
      have HF := Lib.hid hK
      obtain ⟨cs, hcs1, hcs2, hld⟩ := load_row _ _ _ hK.has
      have hmd := made_v cs FV hcs1 (fun i hi => by rw [hcs2 i hi, HFV.out]; congr 2; unfold inR; simp; omega) wr
      clear hK hgo
      go_wp2_with fail
      refine hmd.mono ?_
      rintro x w30 ⟨rfl, hb30⟩
      have RS := HF.out.rs.below hb30
      clear hmd hld
      obtain ⟨v0, v1, v2, v3, v4, v5, v6, v7⟩ := n_cells RS.res
      obtain ⟨q0, q1, q2, q3, q4, q5, q6, q7⟩ := n_froz RS.res
      have HRS := Lib.hid RS
      clear RS
      go_wp2_with fail
      refine post_row_one2 (g := w.heap.size) (cs := #[.int .i64 1, .int .u64 (clsOf FV 0), .int .u64 (clsOf FV 1), .int .u64 (clsOf FV 2), .int .u64 (clsOf FV 3), .slice none 0 0, .int .i64 0, .int .i64 0]) (t := 28) (fr := (0, 0)) (x := .bool true) Try.results55 rfl (blk_set8 HRS.out.res) Try.underlying28 (by rfl) (by kernel_rfl) rfl rfl ?_
      have hlt := HRS.out.lt
      rw [HAV.out, HAE.out]
      exact ⟨none, 0, rfl, FN.leaf _ _ _ rfl, rd_set8 HRS.out.rd (by omega) _ _ _ _ _ _ _ _, fr_set8 HRS.out.fr (Nat.le_refl _) _ _ _ _ _ _ _ _⟩
end
end Go.Proofs.Ytmkcbbamfkafmaa.P
/- The document's reader: an atom, and how often. -/
namespace Go.Proofs.Ytmkcbbamfkafmaa.P
open Go.RowKit Go.Proofs.Ytmkcbbamfkafmaa Go.Proofs.YtmkcbbamfkafmaaW.PrintWords Go.Proofs.YtmkcbbamfkafmaaW.PrintLast Go.Proofs.YtmkcbbamfkafmaaW.PrintMore
set_option linter.unusedVariables false
set_option linter.unusedSimpArgs false
attribute [local go_sem ↓] loadS
theorem atom_any (R : Nat) (s : ByteArray) (st : Sc) (w : World) (h : RdR w R s st) (hA : AltH R s (s.size - st.at_)) : AtomC R s st w := by
  by_cases hg : goes s st
  · by_cases h41 : gb s st.at_ = 41
    · exact atom_end R s st w h hg (.inl h41)
    by_cases h124 : gb s st.at_ = 124
    · exact atom_end R s st w h hg (.inr h124)
    cases hbad : badC (gb s st.at_) with
    | true => exact atom_bad R s st w h hg h41 h124 hbad
    | false =>
      by_cases h40 : gb s st.at_ = 40
      · exact atom_open R s st w h hg h41 h124 hbad hA h40
      by_cases h91 : gb s st.at_ = 91
      · exact atom_set R s st w h hg h41 h124 hbad h91
      by_cases h46 : gb s st.at_ = 46
      · exact atom_dot R s st w h hg h41 h124 hbad h46
      by_cases h92 : gb s st.at_ = 92
      · exact atom_esc R s st w h hg h41 h124 hbad h92
      exact atom_byte R s st w h hg h41 h124 hbad h40 h91 h46 h92
  · exact atom_none R s st w h hg
/-- An atom, and how often. -/
def repV (s : ByteArray) (st : Sc) : (T × Bool) × Sc :=
  if (atomV s st).1.2 = true then (((repGo s (s.size + 1) (atomV s st).1.1 (atomV s st).2).1, true), (repGo s (s.size + 1) (atomV s st).1.1 (atomV s st).2).2) else atomV s st
def RepC (R : Nat) (s : ByteArray) (st : Sc) (w : World) : Prop := Calls Try.prog 43 #[.pointer (some ⟨R, 0, none⟩)] w fun x w' =>
  ∃ A c, x = .returned (.tuple #[ndV (repV s st).1.1 A c, .bool (repV s st).1.2]) ∧ FN w w' (repV s st).1.1 A c ∧ RdR w' R s (repV s st).2 ∧ Fr w.heap.size R w w'
/-- The node that is being repeated, in its variable. -/
structure RepK (w W : World) (R : Nat) (s : ByteArray) (st : Sc) (N : Nat) (t : T) (A : Option Addr) (c : Nat) : Prop where
  rs : ResN w W R s st
  blk : W.heap[N]? = some (.cells #[.int .i64 t.f0, .int .u64 t.f1.f0, .int .u64 t.f1.f1, .int .u64 t.f1.f2, .int .u64 t.f1.f3, .slice A t.f2.length c, .int .i64 t.f3, .int .i64 t.f4] 28)
  f : Kd.F k28 W (fun k => w.heap.size < k ∧ k ≠ N) A t.f2.length t.f2
  cap : t.f2.length ≤ c
  ne : w.heap.size < N
namespace RepK
variable {w W W' w2 : World} {R N c : Nat} {s : ByteArray} {st st' : Sc} {t : T} {A : Option Addr}
theorem call (h : RepK w W R s st N t A c) (hr : RdR W' R s st') (hf : Fr W.heap.size R W W') : RepK w W' R s st' N t A c := by
  have a1 := h.rs.lt
  have a2 := h.ne
  have a5 := blk_lt h.blk
  exact ⟨h.rs.call hr hf, (hf.block _ a5 (by omega)).trans h.blk, Kd.F_step h.f fun k hk hl => hf.block k hl (by have := hk.1; omega), h.cap, a2⟩
theorem start (h : ResN w w2 R s st) (hF : FN (w.alloc (.cells zcs 28)) w2 t A c) : RepK w (w2.alloc (.cells #[.int .i64 t.f0, .int .u64 t.f1.f0, .int .u64 t.f1.f1, .int .u64 t.f1.f2, .int .u64 t.f1.f3, .slice A t.f2.length c, .int .i64 t.f3, .int .i64 t.f4] 28)) R s st w2.heap.size t A c :=
  ⟨h.below (box_belowS _ _), heap_alloc_new w2 _, Kd.F_alloc (Kd.F_mono (Kd.F_bound hF.2) fun k hk => ⟨by have := hk.1; simp at this; omega, by have := hk.2; omega⟩) _, hF.1, blk_lt h.res⟩
/-- The node is written anew: it is the one part of its own repeat. -/
theorem rep (h : RepK w W R s st N t A c) (lo hi : Int) (o : Obj) (ho : o = .cells #[.int .i64 t.f0, .int .u64 t.f1.f0, .int .u64 t.f1.f1, .int .u64 t.f1.f2, .int .u64 t.f1.f3, .slice A t.f2.length c, .int .i64 t.f3, .int .i64 t.f4] 28) :
    RepK w ((((((((((W.alloc o).setCell ⟨N, 0, none⟩ (.int .i64 4)).setCell ⟨N, 1, none⟩ (.int .u64 0)).setCell ⟨N, 2, none⟩ (.int .u64 0)).setCell ⟨N, 3, none⟩ (.int .u64 0)).setCell ⟨N, 4, none⟩ (.int .u64 0)).setCell ⟨N, 5, none⟩ (.slice (some ⟨W.heap.size, 0, none⟩) 1 1)).setCell ⟨N, 6, none⟩ (.int .i64 lo)).setCell ⟨N, 7, none⟩ (.int .i64 hi))) R s st N (timN t lo hi) (some ⟨W.heap.size, 0, none⟩) 1 := by
  have a1 := h.rs.lt
  have a2 := h.ne
  have a5 := blk_lt h.blk
  have hnd : Nd W (fun k => if w.heap.size < k ∧ k ≠ N then none else some 0) ⟨t, A, c⟩ := ⟨Kd.F_mono h.f fun k hk => by show (if _ then _ else _) = _; rw [if_pos hk], h.cap⟩
  have hF := lit_F W _ ⟨t, A, c⟩ hnd (fun k hk => by show (if _ then _ else _) = _; rw [if_pos ⟨by omega, by omega⟩]) o (by rw [ho]; rfl)
  have hb : (W.alloc o).heap[N]? = W.heap[N]? := Below.heap_alloc W o N a5
  have far := far_resN (W.alloc o) N (.int .i64 4) (.int .u64 0) (.int .u64 0) (.int .u64 0) (.int .u64 0) (.slice (some ⟨W.heap.size, 0, none⟩) 1 1) (.int .i64 lo) (.int .i64 hi)
  have h1 : ResN w (W.alloc o) R s st := h.rs.below (box_belowS _ _)
  refine ⟨⟨rd_set8 h1.rd (by omega) _ _ _ _ _ _ _ _, (far.2 _ (by omega)).trans h1.res, fr_set8 h1.fr (by omega) _ _ _ _ _ _ _ _, a1⟩, ?_, ?_, Nat.le_refl _, a2⟩
  · exact blk8_7 (blk8_6 (blk8_5 (blk8_4 (blk8_3 (blk8_2 (blk8_1 (blk8_0 (hb.trans h.blk) _) _) _) _) _) _) _) _
  · refine Kd.F_step (Kd.F_mono hF fun k hk => ?_) fun k hk hl => far.2 k hk.2
    have hk' : (if w.heap.size < k ∧ k ≠ N then none else some 0 : Option Nat) = none := hk
    split at hk'
    · assumption
    · cases hk'
end RepK
/-- What is left of 'how often'. -/
def RestR (s : ByteArray) (t : T) (st : Sc) (fin : T × Sc) : Prop := ∃ n, (st.e = 0 → s.size + 1 - st.at_ ≤ n) ∧ repGo s n t st = fin
def measR (s : ByteArray) (st : Sc) : Nat := if st.e = 0 then s.size + 1 - st.at_ else 0
section
variable {s : ByteArray} {t : T} {st : Sc} {fin : T × Sc}
theorem restR_start (h : st.at_ ≤ s.size) : RestR s t st (repGo s (s.size + 1) t st) := ⟨_, fun _ => by omega, rfl⟩
theorem restR_ne (h : RestR s t st fin) (he : st.e ≠ 0) : fin = (t, st) := by
  obtain ⟨n, _, hn⟩ := h
  rw [← hn, repGo_ne n t he]
theorem restR_step (h : RestR s t st fin) (he : st.e = 0) (hat : st.at_ ≤ s.size) : ∃ n, s.size ≤ n + st.at_ ∧ repGo s (n + 1) t st = fin := by
  obtain ⟨n, h1, hn⟩ := h
  have := h1 he
  obtain ⟨m, rfl⟩ : ∃ m, n = m + 1 := ⟨n - 1, by omega⟩
  exact ⟨m, by omega, hn⟩
theorem restR_plus (h : RestR s t st fin) (he : st.e = 0) (hat : st.at_ ≤ s.size) (h43 : isB s st 43 = true) : RestR s (timN t 1 (-1)) st.adv fin := by
  obtain ⟨n, h1, hn⟩ := restR_step h he hat
  rw [repGo, if_pos h43] at hn
  exact ⟨n, fun _ => by show s.size + 1 - (st.at_ + 1) ≤ n; omega, hn⟩
theorem restR_may (h : RestR s t st fin) (he : st.e = 0) (hat : st.at_ ≤ s.size) (h43 : isB s st 43 = false) (h63 : isB s st 63 = true) : RestR s (timN t 0 1) st.adv fin := by
  obtain ⟨n, h1, hn⟩ := restR_step h he hat
  rw [repGo, if_neg (by rw [h43]; decide), if_pos h63] at hn
  exact ⟨n, fun _ => by show s.size + 1 - (st.at_ + 1) ≤ n; omega, hn⟩
theorem restR_brace (h : RestR s t st fin) (he : st.e = 0) (hat : st.at_ ≤ s.size) (hadv : st.adv.at_ ≤ s.size) (h43 : isB s st 43 = false) (h63 : isB s st 63 = false) (h123 : isB s st 123 = true) : RestR s (timN t (timesR s st.adv).1.1 (timesR s st.adv).1.2) (timesR s st.adv).2 fin := by
  obtain ⟨n, h1, hn⟩ := restR_step h he hat
  rw [repGo, if_neg (by rw [h43]; decide), if_neg (by rw [h63]; decide), if_pos h123] at hn
  refine ⟨n, fun _ => ?_, hn⟩
  have h2 := (timesR_le (s := s) hadv).1
  have h3 : st.adv.at_ = st.at_ + 1 := rfl
  omega
theorem restR_star (h : RestR s t st fin) (he : st.e = 0) (hat : st.at_ ≤ s.size) (h43 : isB s st 43 = false) (h63 : isB s st 63 = false) (h123 : isB s st 123 = false) (h42 : isB s st 42 = true) : RestR s (timN t 0 (-1)) st.adv fin := by
  obtain ⟨n, h1, hn⟩ := restR_step h he hat
  rw [repGo, if_neg (by rw [h43]; decide), if_neg (by rw [h63]; decide), if_neg (by rw [h123]; decide), if_pos h42] at hn
  exact ⟨n, fun _ => by show s.size + 1 - (st.at_ + 1) ≤ n; omega, hn⟩
theorem restR_end (h : RestR s t st fin) (he : st.e = 0) (hat : st.at_ ≤ s.size) (h43 : isB s st 43 = false) (h63 : isB s st 63 = false) (h123 : isB s st 123 = false) (h42 : isB s st 42 = false) : fin = (t, st) := by
  obtain ⟨n, h1, hn⟩ := restR_step h he hat
  rw [repGo, if_neg (by rw [h43]; decide), if_neg (by rw [h63]; decide), if_neg (by rw [h123]; decide), if_neg (by rw [h42]; decide)] at hn
  exact hn.symm
end
end Go.Proofs.Ytmkcbbamfkafmaa.P
/- The document's reader: an atom, and how often: the walk. -/
namespace Go.Proofs.Ytmkcbbamfkafmaa.P
open Go.RowKit Go.Proofs.Ytmkcbbamfkafmaa Go.Proofs.YtmkcbbamfkafmaaW.PrintWords Go.Proofs.YtmkcbbamfkafmaaW.PrintLast Go.Proofs.YtmkcbbamfkafmaaW.PrintMore
set_option linter.unusedVariables false
set_option linter.unusedSimpArgs false
attribute [local go_sem ↓] loadS
theorem RepK.fin {w W : World} {R N c : Nat} {s : ByteArray} {st : Sc} {t : T} {A : Option Addr} (h : RepK w W R s st N t A c) (x0 x1 x2 x3 x4 x5 x6 x7 : Value) :
    FN w ((((((((W.setCell ⟨w.heap.size, 0, none⟩ x0).setCell ⟨w.heap.size, 1, none⟩ x1).setCell ⟨w.heap.size, 2, none⟩ x2).setCell ⟨w.heap.size, 3, none⟩ x3).setCell ⟨w.heap.size, 4, none⟩ x4).setCell ⟨w.heap.size, 5, none⟩ x5).setCell ⟨w.heap.size, 6, none⟩ x6).setCell ⟨w.heap.size, 7, none⟩ x7) t A c :=
  ⟨h.cap, Kd.F_mono (Kd.F_step h.f fun k hk hl => (far_resN W w.heap.size x0 x1 x2 x3 x4 x5 x6 x7).2 k (by have := hk.1; omega)) fun k hk => Nat.le_of_lt hk.1⟩
theorem meas_adv {s : ByteArray} {st : Sc} {c : Int} (h : isB s st c = true) : measR s st.adv + 1 ≤ measR s st := by
  have h1 := isB_lt h
  unfold measR
  rw [if_pos (show st.adv.e = 0 from h1.1), if_pos h1.1]
  show s.size + 1 - (st.at_ + 1) + 1 ≤ _
  omega
theorem timesR_is {s : ByteArray} {la hi : Int} {st sa sb sm : Sc} (h1 : numberR s st = (la, sa)) (h2 : times2R s la sa = (hi, sb)) (h3 : mustS s sb 125 = sm) : timesR s st = ((la, hi), if hi ≥ 0 ∧ la > hi then sm.fail ((st.at_ : Int) - 1) 2 else sm) := by
  unfold timesR
  rw [h1]
  dsimp only
  rw [h2]
  dsimp only
  rw [h3]
theorem brace_end {s : ByteArray} {t : T} {st sx : Sc} {fin : T × Sc} {la hi : Int} (h : RestR s t st fin) (he : st.e = 0) (hat : st.at_ ≤ s.size) (h43 : isB s st 43 = false) (h63 : isB s st 63 = false) (h123 : isB s st 123 = true) (hT : timesR s st.adv = ((la, hi), sx)) : RestR s (timN t la hi) sx fin ∧ measR s sx + 1 ≤ measR s st := by
  have h1 := isB_lt h123
  have hadv : st.adv.at_ ≤ s.size := h1.2.1
  have h2 := restR_brace h he hat hadv h43 h63 h123
  have h3 := timesR_le (s := s) hadv
  rw [hT] at h2 h3
  refine ⟨h2, ?_⟩
  have h4 : st.at_ + 1 ≤ sx.at_ := h3.1
  have h5 : sx.at_ ≤ s.size := h3.2
  unfold measR
  rw [if_pos he]
  split <;> omega
theorem nextV_ne {s : ByteArray} {st : Sc} (h : isB s st 125 = false) : ¬ nextV s st = 125 := fun e => by
  unfold nextV at e
  split at e
  · rename_i hg
    have := isB_self (s := s) (st := st) hg
    rw [e, h] at this
    cases this
  · cases e
theorem nextV_is {s : ByteArray} {st : Sc} (h : isB s st 125 = true) : nextV s st = 125 := by
  have h1 := isB_lt h
  rw [nextV_go ⟨h1.1, h1.2.1⟩]
  exact h1.2.2
set_option maxHeartbeats 4000000 in
theorem rpt_any (R : Nat) (s : ByteArray) (st : Sc) (w : World) (h : RdR w R s st) (hA : AltH R s (s.size - st.at_)) : RepC R s st w := by
  have hR0 := ResN.start h
  have hat := atom_any R s st _ hR0.rd hA
  unfold AtomC at hat
  obtain ⟨V, hV⟩ : ∃ V, V = atomV s st := ⟨_, rfl⟩
  rw [← hV] at hat
  obtain ⟨⟨⟨tk, ⟨t0, t1, t2, t3⟩, tps, tlo, thi⟩, ok⟩, st2⟩ := V
  unfold ndV at hat
  dsimp only at hat
  have HV := Lib.hid hV
  unfold RepC
  clear h hA hV
  go_enter Try.func43, Try.ntmps43
  go_wp2_with fail
  refine hat.mono ?_
  rintro x w2 ⟨A, c, rfl, hF2, hr2, hf2⟩
  have HF2 := Lib.hid hF2
  have HRS2 := Lib.hid (hR0.call hr2 hf2)
  clear hat hF2 hr2 hf2 hR0
  have HK0 := Lib.hid (RepK.start HRS2.out HF2.out)
  go_wp2_with fail
  cases ok with
  | false =>
    have HFT : Hid (repV s st = ((⟨tk, ⟨t0, t1, t2, t3⟩, tps, tlo, thi⟩, false), st2)) := Lib.hid (by unfold repV; rw [← HV.out, if_neg (fun h => absurd h Bool.false_ne_true)])
    go_loopg [] 1 (fun gg wr => RepK w wr R s st2 w2.heap.size ⟨tk, ⟨t0, t1, t2, t3⟩, tps, tlo, thi⟩ A c)
    case atStart => exact HK0.out
    case round =>
      obtain ⟨b0, b1, b2, b3, b4, b5, b6, b7⟩ := n_cells hrel.blk
      obtain ⟨v0, v1, v2, v3, v4, v5, v6, v7⟩ := n_cells hrel.rs.res
      obtain ⟨q0, q1, q2, q3, q4, q5, q6, q7⟩ := n_froz hrel.rs.res
      have hne := hrel.ne
      have hgG : ¬ w.heap.size = w2.heap.size := by omega
      have hGg : ¬ w2.heap.size = w.heap.size := by omega
      have HK := Lib.hid hrel
      clear hrel hne HK0
      go_wp2_with fail
      refine post_row_one2 (g := w.heap.size) (cs := #[.int .i64 tk, .int .u64 t0, .int .u64 t1, .int .u64 t2, .int .u64 t3, .slice A tps.length c, .int .i64 tlo, .int .i64 thi]) (t := 28) (fr := (0, 0)) (x := .bool false) Try.results43 rfl (blk_set8 HK.out.rs.res) Try.underlying28 (by rfl) (by kernel_rfl) rfl rfl ?_
      have hlt := HK.out.rs.lt
      rw [HFT.out]
      exact ⟨A, c, rfl, HK.out.fin _ _ _ _ _ _ _ _, rd_set8 HK.out.rs.rd (by omega) _ _ _ _ _ _ _ _, fr_set8 HK.out.rs.fr (Nat.le_refl _) _ _ _ _ _ _ _ _⟩
  | true =>
    obtain ⟨fin, hfin⟩ : ∃ fin, fin = repGo s (s.size + 1) ⟨tk, ⟨t0, t1, t2, t3⟩, tps, tlo, thi⟩ st2 := ⟨_, rfl⟩
    have HFIN : Hid (repV s st = ((fin.1, true), fin.2)) := Lib.hid (by unfold repV; rw [← HV.out, if_pos rfl, hfin])
    have HR0 : Hid (RestR s ⟨tk, ⟨t0, t1, t2, t3⟩, tps, tlo, thi⟩ st2 fin) := Lib.hid (by rw [hfin]; exact restR_start HRS2.out.rd.hat)
    clear hfin
    go_loopg [] (s.size + 3) (fun gg wr => ∃ (t : T) (A : Option Addr) (c : Nat) (st1 : Sc), RepK w wr R s st1 w2.heap.size t A c ∧ measR s st1 + 1 ≤ gg ∧ Hid (RestR s t st1 fin))
    case atStart => exact ⟨_, _, _, _, HK0.out, by unfold measR; split <;> omega, HR0⟩
    case round =>
      obtain ⟨t, A, c, st1, hK, hgg, hRS⟩ := hrel
      clear HK0 HR0
      obtain ⟨c0, c1, c2, c3⟩ := hK.rs.rd.cells
      obtain ⟨b0, b1, b2, b3, b4, b5, b6, b7⟩ := n_cells hK.blk
      obtain ⟨v0, v1, v2, v3, v4, v5, v6, v7⟩ := n_cells hK.rs.res
      obtain ⟨q0, q1, q2, q3, q4, q5, q6, q7⟩ := n_froz hK.rs.res
      have hne := hK.ne
      have hgG : ¬ w.heap.size = w2.heap.size := by omega
      have hGg : ¬ w2.heap.size = w.heap.size := by omega
      have HK := Lib.hid hK
      have hat1 := hK.rs.rd.hat
      clear hK hne
      by_cases he1 : st1.e = 0
      · rw [he1] at c3
        have HE1 := Lib.hid he1
        clear he1
        go_wp2_with fail
        go_region
        have hK3 : RepK w wr.drew R s st1 w2.heap.size t A c := HK.out.call (HK.out.rs.rd.keep rfl) (fr_drewN' _ _ _ 1)
        have HK3 := Lib.hid hK3
        clear hK3 c0 c1 c2 c3 b0 b1 b2 b3 b4 b5 b6 b7 v0 v1 v2 v3 v4 v5 v6 v7 q0 q1 q2 q3 q4 q5 q6 q7
        cases h43 : isB s st1 43 with
        | true =>
          have htk := rr_yes R s st1 wr.drew 43 (by decide) (by decide) HK3.out.rs.rd h43
          have H43 := Lib.hid h43
          clear h43
          go_wp2_with fail
          refine htk.mono ?_
          rintro x w5 ⟨rfl, hr5, hf5⟩
          have HK5 := Lib.hid (HK3.out.call hr5 hf5)
          clear htk hr5 hf5
          go_upto_if 27 with fail
          go_cut [6, 7] (fun s6 s7 wx => ∃ (lo hi : Int) (st2 : Sc), s6 = .int .i64 lo ∧ s7 = .int .i64 hi ∧ RepK w wx R s st2 w2.heap.size t A c ∧ Hid (RestR s (timN t lo hi) st2 fin) ∧ measR s st2 + 1 ≤ measR s st1)
          case first =>
            go_wp2
            go_meet
            exact ⟨1, (-1), _, rfl, rfl, HK5.out, Lib.hid (restR_plus hRS.out HE1.out hat1 H43.out), meas_adv H43.out⟩
          case rest =>
            obtain ⟨lo, hi, st9, rfl, rfl, hK9, hR9, hM9⟩ := hcut
            obtain ⟨b0, b1, b2, b3, b4, b5, b6, b7⟩ := n_cells hK9.blk
            have hbo : ∀ o : Obj, (wc.alloc o).heap[w2.heap.size]? = some (.cells #[.int .i64 t.f0, .int .u64 t.f1.f0, .int .u64 t.f1.f1, .int .u64 t.f1.f2, .int .u64 t.f1.f3, .slice A t.f2.length c, .int .i64 t.f3, .int .i64 t.f4] 28) := fun o => (Below.heap_alloc wc o _ (blk_lt hK9.blk)).trans hK9.blk
            have x0 : ∀ o, (wc.alloc o).cell? ⟨w2.heap.size, 0, none⟩ = _ := fun o => (n_cells (hbo o)).1
            have g0 : ∀ o, (wc.alloc o).frozen? ⟨w2.heap.size, 0, none⟩ = _ := fun o => (n_froz (hbo o)).1
            have x1 : ∀ o, (wc.alloc o).cell? ⟨w2.heap.size, 1, none⟩ = _ := fun o => (n_cells (hbo o)).2.1
            have g1 : ∀ o, (wc.alloc o).frozen? ⟨w2.heap.size, 1, none⟩ = _ := fun o => (n_froz (hbo o)).2.1
            have x2 : ∀ o, (wc.alloc o).cell? ⟨w2.heap.size, 2, none⟩ = _ := fun o => (n_cells (hbo o)).2.2.1
            have g2 : ∀ o, (wc.alloc o).frozen? ⟨w2.heap.size, 2, none⟩ = _ := fun o => (n_froz (hbo o)).2.2.1
            have x3 : ∀ o, (wc.alloc o).cell? ⟨w2.heap.size, 3, none⟩ = _ := fun o => (n_cells (hbo o)).2.2.2.1
            have g3 : ∀ o, (wc.alloc o).frozen? ⟨w2.heap.size, 3, none⟩ = _ := fun o => (n_froz (hbo o)).2.2.2.1
            have x4 : ∀ o, (wc.alloc o).cell? ⟨w2.heap.size, 4, none⟩ = _ := fun o => (n_cells (hbo o)).2.2.2.2.1
            have g4 : ∀ o, (wc.alloc o).frozen? ⟨w2.heap.size, 4, none⟩ = _ := fun o => (n_froz (hbo o)).2.2.2.2.1
            have x5 : ∀ o, (wc.alloc o).cell? ⟨w2.heap.size, 5, none⟩ = _ := fun o => (n_cells (hbo o)).2.2.2.2.2.1
            have g5 : ∀ o, (wc.alloc o).frozen? ⟨w2.heap.size, 5, none⟩ = _ := fun o => (n_froz (hbo o)).2.2.2.2.2.1
            have x6 : ∀ o, (wc.alloc o).cell? ⟨w2.heap.size, 6, none⟩ = _ := fun o => (n_cells (hbo o)).2.2.2.2.2.2.1
            have g6 : ∀ o, (wc.alloc o).frozen? ⟨w2.heap.size, 6, none⟩ = _ := fun o => (n_froz (hbo o)).2.2.2.2.2.2.1
            have x7 : ∀ o, (wc.alloc o).cell? ⟨w2.heap.size, 7, none⟩ = _ := fun o => (n_cells (hbo o)).2.2.2.2.2.2.2
            have g7 : ∀ o, (wc.alloc o).frozen? ⟨w2.heap.size, 7, none⟩ = _ := fun o => (n_froz (hbo o)).2.2.2.2.2.2.2
            have HK9 := Lib.hid hK9
            have HM9 := Lib.hid hM9
            clear hK9 hbo hM9
            go_wp2
            go_roundg (measR s st9 + 1)
            case measure => have := HM9.out; omega
            case rel => exact ⟨_, _, _, st9, HK9.out.rep lo hi _ rfl, Nat.le_refl _, hR9⟩
        | false =>
          have htk := rr_no R s st1 wr.drew 43 (by decide) (by decide) HK3.out.rs.rd h43
          have H43 := Lib.hid h43
          clear h43
          go_wp2_with fail
          refine htk.mono ?_
          rintro x w5 ⟨rfl, hr5, hf5⟩
          have HK5 := Lib.hid (HK3.out.call hr5 hf5)
          clear htk hr5 hf5
          go_upto_if 27 with fail
          go_cut [6, 7] (fun s6 s7 wx => ∃ (lo hi : Int) (st2 : Sc), s6 = .int .i64 lo ∧ s7 = .int .i64 hi ∧ RepK w wx R s st2 w2.heap.size t A c ∧ Hid (RestR s (timN t lo hi) st2 fin) ∧ measR s st2 + 1 ≤ measR s st1)
          case first =>
            cases h63 : isB s st1 63 with
            | true =>
              have htk := rr_yes R s st1 w5 63 (by decide) (by decide) HK5.out.rs.rd h63
              have H63 := Lib.hid h63
              clear h63
              go_wp2_with fail
              refine htk.mono ?_
              rintro x w6 ⟨rfl, hr6, hf6⟩
              have HK6 := Lib.hid (HK5.out.call hr6 hf6)
              clear htk hr6 hf6
              go_wp2
              go_meet
              exact ⟨0, 1, _, rfl, rfl, HK6.out, Lib.hid (restR_may hRS.out HE1.out hat1 H43.out H63.out), meas_adv H63.out⟩
            | false =>
              have htk := rr_no R s st1 w5 63 (by decide) (by decide) HK5.out.rs.rd h63
              have H63 := Lib.hid h63
              clear h63
              go_wp2_with fail
              refine htk.mono ?_
              rintro x w6 ⟨rfl, hr6, hf6⟩
              have HK6 := Lib.hid (HK5.out.call hr6 hf6)
              clear htk hr6 hf6
              cases h123 : isB s st1 123 with
              | true =>
                have H123 : Hid (isB s st1 123 = true) := Lib.hid h123
                obtain ⟨NA, hNA⟩ : ∃ NA, NA = numberR s st1.adv := ⟨_, rfl⟩
                have hnv := (numberR_val (s := s) st1.adv).2
                rw [← hNA] at hnv
                obtain ⟨la, sa⟩ := NA
                have hla : 0 ≤ la := hnv
                have HNA : Hid (numberR s st1.adv = (la, sa)) := Lib.hid hNA.symm
                clear hnv hNA
                have htk := rr_yes R s st1 w6 123 (by decide) (by decide) HK6.out.rs.rd h123
                have H123b := Lib.hid h123
                clear h123
                go_wp2_with fail
                refine htk.mono ?_
                rintro x w7 ⟨rfl, hr7, hf7⟩
                have HK7 := Lib.hid (HK6.out.call hr7 hf7)
                clear htk hr7 hf7
                have hnm := rr_number R s st1.adv w7 HE1.out HK7.out.rs.rd
                rw [HNA.out] at hnm
                go_wp2_with fail
                refine hnm.mono ?_
                rintro x w8 ⟨rfl, hr8, hf8⟩
                have HK8 := Lib.hid (HK7.out.call hr8 hf8)
                clear hnm hr8 hf8
                cases h44 : isB s sa 44 with
                | false =>
                  have H2 : Hid (times2R s la sa = (la, sa)) := Lib.hid (by unfold times2R; rw [h44, if_neg (by decide)])
                  have htk := rr_no R s sa w8 44 (by decide) (by decide) HK8.out.rs.rd h44
                  have H44 := Lib.hid h44
                  clear h44
                  go_wp2_with fail
                  refine htk.mono ?_
                  rintro x w9 ⟨rfl, hr9, hf9⟩
                  have HK9 := Lib.hid (HK8.out.call hr9 hf9)
                  clear htk hr9 hf9
                  cases h125 : isB s sa 125 with
                  | true =>
                    have HMU : Hid (mustS s sa 125 = (sa).adv) := Lib.hid (by unfold mustS; rw [h125, if_pos rfl])
                    have htk := rr_yes R s sa w9 125 (by decide) (by decide) HK9.out.rs.rd h125
                    have H125 := Lib.hid h125
                    clear h125
                    go_wp2_with fail
                    refine htk.mono ?_
                    rintro x w10 ⟨rfl, hr10, hf10⟩
                    have HK10 := Lib.hid (HK9.out.call hr10 hf10)
                    clear htk hr10 hf10
                    go_wp2
                    go_meet
                    have hT := timesR_is HNA.out H2.out HMU.out
                    rw [if_neg (by omega)] at hT
                    obtain ⟨e1, e2⟩ := brace_end hRS.out HE1.out hat1 H43.out H63.out H123.out hT
                    exact ⟨la, la, _, rfl, rfl, HK10.out, Lib.hid e1, e2⟩
                  | false =>
                    have HMU : Hid (mustS s sa 125 = (sa).fail (sa).at_ 2) := Lib.hid (by unfold mustS; rw [h125, if_neg (by decide)])
                    have htk := rr_no R s sa w9 125 (by decide) (by decide) HK9.out.rs.rd h125
                    have H125 := Lib.hid h125
                    clear h125
                    go_wp2_with fail
                    refine htk.mono ?_
                    rintro x w10 ⟨rfl, hr10, hf10⟩
                    have HK10 := Lib.hid (HK9.out.call hr10 hf10)
                    clear htk hr10 hf10
                    obtain ⟨c0, c1, c2, c3⟩ := HK10.out.rs.rd.cells
                    have hfl := rr_fail R s sa w10 (((sa).at_ : Nat) : Int) 2 HK10.out.rs.rd
                    go_wp2_with fail
                    refine hfl.mono ?_
                    rintro x w11 ⟨rfl, hr11, hf11⟩
                    have HK11 := Lib.hid (HK10.out.call hr11 hf11)
                    clear hfl hr11 hf11 c0 c1 c2 c3
                    go_wp2
                    go_meet
                    have hT := timesR_is HNA.out H2.out HMU.out
                    rw [if_neg (by omega)] at hT
                    obtain ⟨e1, e2⟩ := brace_end hRS.out HE1.out hat1 H43.out H63.out H123.out hT
                    exact ⟨la, la, _, rfl, rfl, HK11.out, Lib.hid e1, e2⟩
                | true =>
                  have htk := rr_yes R s sa w8 44 (by decide) (by decide) HK8.out.rs.rd h44
                  have H44 := Lib.hid h44
                  clear h44
                  go_wp2_with fail
                  refine htk.mono ?_
                  rintro x w9 ⟨rfl, hr9, hf9⟩
                  have HK9 := Lib.hid (HK8.out.call hr9 hf9)
                  clear htk hr9 hf9
                  have hnx := rr_next R s sa.adv w9 HK9.out.rs.rd
                  cases h25 : isB s sa.adv 125 with
                  | true =>
                    have H2 : Hid (times2R s la sa = (-1, sa.adv)) := Lib.hid (by unfold times2R; rw [H44.out, if_pos rfl, h25, if_pos rfl])
                    rw [nextV_is h25] at hnx
                    clear h25
                    go_wp2_with fail
                    refine hnx.mono ?_
                    rintro x w10 ⟨rfl, hr10, hf10⟩
                    have HK10 := Lib.hid (HK9.out.call hr10 hf10)
                    clear hnx hr10 hf10
                    cases h125 : isB s sa.adv 125 with
                    | true =>
                      have HMU : Hid (mustS s sa.adv 125 = (sa.adv).adv) := Lib.hid (by unfold mustS; rw [h125, if_pos rfl])
                      have htk := rr_yes R s sa.adv w10 125 (by decide) (by decide) HK10.out.rs.rd h125
                      have H125 := Lib.hid h125
                      clear h125
                      go_wp2_with fail
                      refine htk.mono ?_
                      rintro x w11 ⟨rfl, hr11, hf11⟩
                      have HK11 := Lib.hid (HK10.out.call hr11 hf11)
                      clear htk hr11 hf11
                      go_wp2
                      go_meet
                      have hT := timesR_is HNA.out H2.out HMU.out
                      rw [if_neg (by omega)] at hT
                      obtain ⟨e1, e2⟩ := brace_end hRS.out HE1.out hat1 H43.out H63.out H123.out hT
                      exact ⟨la, (-1), _, rfl, rfl, HK11.out, Lib.hid e1, e2⟩
                    | false =>
                      have HMU : Hid (mustS s sa.adv 125 = (sa.adv).fail (sa.adv).at_ 2) := Lib.hid (by unfold mustS; rw [h125, if_neg (by decide)])
                      have htk := rr_no R s sa.adv w10 125 (by decide) (by decide) HK10.out.rs.rd h125
                      have H125 := Lib.hid h125
                      clear h125
                      go_wp2_with fail
                      refine htk.mono ?_
                      rintro x w11 ⟨rfl, hr11, hf11⟩
                      have HK11 := Lib.hid (HK10.out.call hr11 hf11)
                      clear htk hr11 hf11
                      obtain ⟨c0, c1, c2, c3⟩ := HK11.out.rs.rd.cells
                      have hfl := rr_fail R s sa.adv w11 (((sa.adv).at_ : Nat) : Int) 2 HK11.out.rs.rd
                      go_wp2_with fail
                      refine hfl.mono ?_
                      rintro x w12 ⟨rfl, hr12, hf12⟩
                      have HK12 := Lib.hid (HK11.out.call hr12 hf12)
                      clear hfl hr12 hf12 c0 c1 c2 c3
                      go_wp2
                      go_meet
                      have hT := timesR_is HNA.out H2.out HMU.out
                      rw [if_neg (by omega)] at hT
                      obtain ⟨e1, e2⟩ := brace_end hRS.out HE1.out hat1 H43.out H63.out H123.out hT
                      exact ⟨la, (-1), _, rfl, rfl, HK12.out, Lib.hid e1, e2⟩
                  | false =>
                    have H2a : Hid (times2R s la sa = numberR s sa.adv) := Lib.hid (by unfold times2R; rw [H44.out, if_pos rfl, h25, if_neg (by decide)])
                    have hne25 := nextV_ne h25
                    obtain ⟨vn, hvn⟩ : ∃ vn, vn = nextV s sa.adv := ⟨_, rfl⟩
                    rw [← hvn] at hnx hne25
                    clear h25 hvn
                    obtain ⟨NB, hNB⟩ : ∃ NB, NB = numberR s sa.adv := ⟨_, rfl⟩
                    obtain ⟨lb, sb⟩ := NB
                    have H2 : Hid (times2R s la sa = (lb, sb)) := Lib.hid (by rw [H2a.out, hNB])
                    go_wp2_with fail
                    refine hnx.mono ?_
                    rintro x w10 ⟨rfl, hr10, hf10⟩
                    have HK10 := Lib.hid (HK9.out.call hr10 hf10)
                    have hnm := rr_number R s sa.adv w10 (isB_lt H44.out).1 HK10.out.rs.rd
                    rw [← hNB] at hnm
                    clear hnx hr10 hf10 hNB
                    go_wp2_with fail
                    refine hnm.mono ?_
                    rintro x w11 ⟨rfl, hr11, hf11⟩
                    have HK11 := Lib.hid (HK10.out.call hr11 hf11)
                    clear hnm hr11 hf11
                    cases h125 : isB s sb 125 with
                    | true =>
                      have HMU : Hid (mustS s sb 125 = (sb).adv) := Lib.hid (by unfold mustS; rw [h125, if_pos rfl])
                      have htk := rr_yes R s sb w11 125 (by decide) (by decide) HK11.out.rs.rd h125
                      have H125 := Lib.hid h125
                      clear h125
                      go_wp2_with fail
                      refine htk.mono ?_
                      rintro x w12 ⟨rfl, hr12, hf12⟩
                      have HK12 := Lib.hid (HK11.out.call hr12 hf12)
                      clear htk hr12 hf12
                      by_cases hge : 0 ≤ lb
                      · by_cases hlh : lb < la
                        · skip
                          have hfl := rr_fail R s (sb).adv w12 (st1.at_ : Int) 2 HK12.out.rs.rd
                          go_wp2_with fail
                          refine hfl.mono ?_
                          rintro x w13 ⟨rfl, hr13, hf13⟩
                          have HK13 := Lib.hid (HK12.out.call hr13 hf13)
                          clear hfl hr13 hf13
                          go_wp2
                          go_meet
                          have hT := timesR_is HNA.out H2.out HMU.out
                          rw [if_pos ⟨by omega, by omega⟩, show ((st1.adv.at_ : Int) - 1) = (st1.at_ : Int) by show ((st1.at_ + 1 : Nat) : Int) - 1 = _; omega] at hT
                          obtain ⟨e1, e2⟩ := brace_end hRS.out HE1.out hat1 H43.out H63.out H123.out hT
                          exact ⟨la, lb, _, rfl, rfl, HK13.out, Lib.hid e1, e2⟩
                        · skip
                          go_wp2
                          go_meet
                          have hT := timesR_is HNA.out H2.out HMU.out
                          rw [if_neg (by omega)] at hT
                          obtain ⟨e1, e2⟩ := brace_end hRS.out HE1.out hat1 H43.out H63.out H123.out hT
                          exact ⟨la, lb, _, rfl, rfl, HK12.out, Lib.hid e1, e2⟩
                      · skip
                        go_wp2
                        go_meet
                        have hT := timesR_is HNA.out H2.out HMU.out
                        rw [if_neg (by omega)] at hT
                        obtain ⟨e1, e2⟩ := brace_end hRS.out HE1.out hat1 H43.out H63.out H123.out hT
                        exact ⟨la, lb, _, rfl, rfl, HK12.out, Lib.hid e1, e2⟩
                    | false =>
                      have HMU : Hid (mustS s sb 125 = (sb).fail (sb).at_ 2) := Lib.hid (by unfold mustS; rw [h125, if_neg (by decide)])
                      have htk := rr_no R s sb w11 125 (by decide) (by decide) HK11.out.rs.rd h125
                      have H125 := Lib.hid h125
                      clear h125
                      go_wp2_with fail
                      refine htk.mono ?_
                      rintro x w12 ⟨rfl, hr12, hf12⟩
                      have HK12 := Lib.hid (HK11.out.call hr12 hf12)
                      clear htk hr12 hf12
                      obtain ⟨c0, c1, c2, c3⟩ := HK12.out.rs.rd.cells
                      have hfl := rr_fail R s sb w12 (((sb).at_ : Nat) : Int) 2 HK12.out.rs.rd
                      go_wp2_with fail
                      refine hfl.mono ?_
                      rintro x w13 ⟨rfl, hr13, hf13⟩
                      have HK13 := Lib.hid (HK12.out.call hr13 hf13)
                      clear hfl hr13 hf13 c0 c1 c2 c3
                      by_cases hge : 0 ≤ lb
                      · by_cases hlh : lb < la
                        · skip
                          have hfl := rr_fail R s ((sb).fail (sb).at_ 2) w13 (st1.at_ : Int) 2 HK13.out.rs.rd
                          go_wp2_with fail
                          refine hfl.mono ?_
                          rintro x w14 ⟨rfl, hr14, hf14⟩
                          have HK14 := Lib.hid (HK13.out.call hr14 hf14)
                          clear hfl hr14 hf14
                          go_wp2
                          go_meet
                          have hT := timesR_is HNA.out H2.out HMU.out
                          rw [if_pos ⟨by omega, by omega⟩, show ((st1.adv.at_ : Int) - 1) = (st1.at_ : Int) by show ((st1.at_ + 1 : Nat) : Int) - 1 = _; omega] at hT
                          obtain ⟨e1, e2⟩ := brace_end hRS.out HE1.out hat1 H43.out H63.out H123.out hT
                          exact ⟨la, lb, _, rfl, rfl, HK14.out, Lib.hid e1, e2⟩
                        · skip
                          go_wp2
                          go_meet
                          have hT := timesR_is HNA.out H2.out HMU.out
                          rw [if_neg (by omega)] at hT
                          obtain ⟨e1, e2⟩ := brace_end hRS.out HE1.out hat1 H43.out H63.out H123.out hT
                          exact ⟨la, lb, _, rfl, rfl, HK13.out, Lib.hid e1, e2⟩
                      · skip
                        go_wp2
                        go_meet
                        have hT := timesR_is HNA.out H2.out HMU.out
                        rw [if_neg (by omega)] at hT
                        obtain ⟨e1, e2⟩ := brace_end hRS.out HE1.out hat1 H43.out H63.out H123.out hT
                        exact ⟨la, lb, _, rfl, rfl, HK13.out, Lib.hid e1, e2⟩
              | false =>
                have htk := rr_no R s st1 w6 123 (by decide) (by decide) HK6.out.rs.rd h123
                have H123 := Lib.hid h123
                clear h123
                go_wp2_with fail
                refine htk.mono ?_
                rintro x w7 ⟨rfl, hr7, hf7⟩
                have HK7 := Lib.hid (HK6.out.call hr7 hf7)
                clear htk hr7 hf7
                cases h42 : isB s st1 42 with
                | true =>
                  have htk := rr_yes R s st1 w7 42 (by decide) (by decide) HK7.out.rs.rd h42
                  have H42 := Lib.hid h42
                  clear h42
                  go_wp2_with fail
                  refine htk.mono ?_
                  rintro x w8 ⟨rfl, hr8, hf8⟩
                  have HK8 := Lib.hid (HK7.out.call hr8 hf8)
                  clear htk hr8 hf8
                  go_wp2
                  go_meet
                  exact ⟨0, (-1), _, rfl, rfl, HK8.out, Lib.hid (restR_star hRS.out HE1.out hat1 H43.out H63.out H123.out H42.out), meas_adv H42.out⟩
                | false =>
                  have htk := rr_no R s st1 w7 42 (by decide) (by decide) HK7.out.rs.rd h42
                  have H42 := Lib.hid h42
                  clear h42
                  go_wp2_with fail
                  refine htk.mono ?_
                  rintro x w8 ⟨rfl, hr8, hf8⟩
                  have HK8 := Lib.hid (HK7.out.call hr8 hf8)
                  clear htk hr8 hf8
                  obtain ⟨b0, b1, b2, b3, b4, b5, b6, b7⟩ := n_cells HK8.out.blk
                  obtain ⟨v0, v1, v2, v3, v4, v5, v6, v7⟩ := n_cells HK8.out.rs.res
                  obtain ⟨q0, q1, q2, q3, q4, q5, q6, q7⟩ := n_froz HK8.out.rs.res
                  have HFT := Lib.hid (restR_end hRS.out HE1.out hat1 H43.out H63.out H123.out H42.out)
                  go_wp2_with fail
                  refine post_row_one2 (g := w.heap.size) (cs := #[.int .i64 t.f0, .int .u64 t.f1.f0, .int .u64 t.f1.f1, .int .u64 t.f1.f2, .int .u64 t.f1.f3, .slice A t.f2.length c, .int .i64 t.f3, .int .i64 t.f4]) (t := 28) (fr := (0, 0)) (x := .bool true) Try.results43 rfl (blk_set8 HK8.out.rs.res) Try.underlying28 (by rfl) (by kernel_rfl) rfl rfl ?_
                  have hlt := HK8.out.rs.lt
                  rw [HFIN.out, HFT.out]
                  exact ⟨A, c, rfl, HK8.out.fin _ _ _ _ _ _ _ _, rd_set8 HK8.out.rs.rd (by omega) _ _ _ _ _ _ _ _, fr_set8 HK8.out.rs.fr (Nat.le_refl _) _ _ _ _ _ _ _ _⟩
          case rest =>
            obtain ⟨lo, hi, st9, rfl, rfl, hK9, hR9, hM9⟩ := hcut
            obtain ⟨b0, b1, b2, b3, b4, b5, b6, b7⟩ := n_cells hK9.blk
            have hbo : ∀ o : Obj, (wc.alloc o).heap[w2.heap.size]? = some (.cells #[.int .i64 t.f0, .int .u64 t.f1.f0, .int .u64 t.f1.f1, .int .u64 t.f1.f2, .int .u64 t.f1.f3, .slice A t.f2.length c, .int .i64 t.f3, .int .i64 t.f4] 28) := fun o => (Below.heap_alloc wc o _ (blk_lt hK9.blk)).trans hK9.blk
            have x0 : ∀ o, (wc.alloc o).cell? ⟨w2.heap.size, 0, none⟩ = _ := fun o => (n_cells (hbo o)).1
            have g0 : ∀ o, (wc.alloc o).frozen? ⟨w2.heap.size, 0, none⟩ = _ := fun o => (n_froz (hbo o)).1
            have x1 : ∀ o, (wc.alloc o).cell? ⟨w2.heap.size, 1, none⟩ = _ := fun o => (n_cells (hbo o)).2.1
            have g1 : ∀ o, (wc.alloc o).frozen? ⟨w2.heap.size, 1, none⟩ = _ := fun o => (n_froz (hbo o)).2.1
            have x2 : ∀ o, (wc.alloc o).cell? ⟨w2.heap.size, 2, none⟩ = _ := fun o => (n_cells (hbo o)).2.2.1
            have g2 : ∀ o, (wc.alloc o).frozen? ⟨w2.heap.size, 2, none⟩ = _ := fun o => (n_froz (hbo o)).2.2.1
            have x3 : ∀ o, (wc.alloc o).cell? ⟨w2.heap.size, 3, none⟩ = _ := fun o => (n_cells (hbo o)).2.2.2.1
            have g3 : ∀ o, (wc.alloc o).frozen? ⟨w2.heap.size, 3, none⟩ = _ := fun o => (n_froz (hbo o)).2.2.2.1
            have x4 : ∀ o, (wc.alloc o).cell? ⟨w2.heap.size, 4, none⟩ = _ := fun o => (n_cells (hbo o)).2.2.2.2.1
            have g4 : ∀ o, (wc.alloc o).frozen? ⟨w2.heap.size, 4, none⟩ = _ := fun o => (n_froz (hbo o)).2.2.2.2.1
            have x5 : ∀ o, (wc.alloc o).cell? ⟨w2.heap.size, 5, none⟩ = _ := fun o => (n_cells (hbo o)).2.2.2.2.2.1
            have g5 : ∀ o, (wc.alloc o).frozen? ⟨w2.heap.size, 5, none⟩ = _ := fun o => (n_froz (hbo o)).2.2.2.2.2.1
            have x6 : ∀ o, (wc.alloc o).cell? ⟨w2.heap.size, 6, none⟩ = _ := fun o => (n_cells (hbo o)).2.2.2.2.2.2.1
            have g6 : ∀ o, (wc.alloc o).frozen? ⟨w2.heap.size, 6, none⟩ = _ := fun o => (n_froz (hbo o)).2.2.2.2.2.2.1
            have x7 : ∀ o, (wc.alloc o).cell? ⟨w2.heap.size, 7, none⟩ = _ := fun o => (n_cells (hbo o)).2.2.2.2.2.2.2
            have g7 : ∀ o, (wc.alloc o).frozen? ⟨w2.heap.size, 7, none⟩ = _ := fun o => (n_froz (hbo o)).2.2.2.2.2.2.2
            have HK9 := Lib.hid hK9
            have HM9 := Lib.hid hM9
            clear hK9 hbo hM9
            go_wp2
            go_roundg (measR s st9 + 1)
            case measure => have := HM9.out; omega
            case rel => exact ⟨_, _, _, st9, HK9.out.rep lo hi _ rfl, Nat.le_refl _, hR9⟩
      · have HFT := Lib.hid (restR_ne hRS.out he1)
        go_wp2_with fail
        refine post_row_one2 (g := w.heap.size) (cs := #[.int .i64 t.f0, .int .u64 t.f1.f0, .int .u64 t.f1.f1, .int .u64 t.f1.f2, .int .u64 t.f1.f3, .slice A t.f2.length c, .int .i64 t.f3, .int .i64 t.f4]) (t := 28) (fr := (0, 0)) (x := .bool true) Try.results43 rfl (blk_set8 HK.out.rs.res) Try.underlying28 (by rfl) (by kernel_rfl) rfl rfl ?_
        have hlt := HK.out.rs.lt
        rw [HFIN.out, HFT.out]
        exact ⟨A, c, rfl, HK.out.fin _ _ _ _ _ _ _ _, rd_set8 HK.out.rs.rd (by omega) _ _ _ _ _ _ _ _, fr_set8 HK.out.rs.fr (Nat.le_refl _) _ _ _ _ _ _ _ _⟩
end Go.Proofs.Ytmkcbbamfkafmaa.P
/- The document's reader: Alt, plain: told by `repeated`. -/
namespace Go.Proofs.Ytmkcbbamfkafmaa.P
open Go.RowKit Go.Proofs.Ytmkcbbamfkafmaa Go.Proofs.YtmkcbbamfkafmaaW.PrintWords Go.Proofs.YtmkcbbamfkafmaaW.PrintLast Go.Proofs.YtmkcbbamfkafmaaW.PrintMore
set_option linter.unusedVariables false
set_option linter.unusedSimpArgs false
theorem altF_fuel {s : ByteArray} {st : Sc} (n : Nat) (rows row : List T) (h : st.at_ ≤ s.size) (hn : s.size - st.at_ < n) : altGo s n rows row st = altF s rows row st :=
  altGo_fuel _ _ _ _ _ h hn (by omega)
/-- An atom is read: the row grows by it. -/
theorem altF_rep {s : ByteArray} {st : Sc} (rows row : List T) (hat : st.at_ ≤ s.size) (hok : (repV s st).1.2 = true) :
    altF s rows row st = altF s rows (row ++ [(repV s st).1.1]) (repV s st).2 ∧ Le s (st.at_ + 1) (repV s st).2 := by
  have hok2 : (atomV s st).1.2 = true := by
    unfold repV at hok
    split at hok
    · assumption
    · exact hok
  have hrep : repV s st = (((repGo s (s.size + 1) (atomV s st).1.1 (atomV s st).2).1, true), (repGo s (s.size + 1) (atomV s st).1.1 (atomV s st).2).2) := by unfold repV; rw [if_pos hok2]
  by_cases hg : goes s st ∧ gb s st.at_ ≠ 41 ∧ gb s st.at_ ≠ 124
  · have hlt := hg.1.2
    have ha : st.adv.at_ = st.at_ + 1 := rfl
    by_cases hbad : badC (gb s st.at_) = true
    · exfalso
      unfold atomV at hok2
      rw [if_pos hg, if_pos hbad] at hok2
      cases hok2
    obtain ⟨n, hn⟩ : ∃ n, n = s.size - st.at_ := ⟨_, rfl⟩
    have e0 : altF s rows row st = altGo s (n + 1) rows row st := by unfold altF; congr 1; omega
    by_cases h40 : gb s st.at_ = 40
    · have hA : atomV s st = (((altF s [] [] st.adv).1, true), mustS s (altF s [] [] st.adv).2 41) := by unfold atomV; rw [if_pos hg, if_neg hbad, if_pos h40]
      have hle : Le s (st.at_ + 1) (repGo s (s.size + 1) (altF s [] [] st.adv).1 (mustS s (altF s [] [] st.adv).2 41)).2 := by
        have h2 := altGo_at (s := s) (s.size + 1 - st.adv.at_) [] [] st.adv hlt
        have h3 := h2.trans (le_must h2.2 41)
        exact h3.trans (repGo_at (s.size + 1) (altF s [] [] st.adv).1 _ h3.2)
      rw [hrep, hA]
      dsimp only
      refine ⟨?_, hle⟩
      rw [e0, altGo, if_pos hg, if_neg hbad, if_pos h40, altF_fuel (s := s) (st := st.adv) n [] [] hlt (by omega)]
      exact altF_fuel n _ _ hle.2 (by have := hle.1; omega)
    · have hA : atomV s st = (((atomE s (gb s st.at_) st).1, true), (atomE s (gb s st.at_) st).2) := by unfold atomV; rw [if_pos hg, if_neg hbad, if_neg h40]
      have hle : Le s (st.at_ + 1) (repGo s (s.size + 1) (atomE s (gb s st.at_) st).1 (atomE s (gb s st.at_) st).2).2 := by
        have h3 := atomE_le hg.1 (gb s st.at_)
        exact Le.trans h3 (repGo_at (s.size + 1) (atomE s (gb s st.at_) st).1 _ h3.2)
      rw [hrep, hA]
      dsimp only
      refine ⟨?_, hle⟩
      rw [e0, altGo, if_pos hg, if_neg hbad, if_neg h40]
      exact altF_fuel n _ _ hle.2 (by have := hle.1; omega)
  · exfalso
    unfold atomV at hok2
    rw [if_neg hg] at hok2
    cases hok2
/-- No atom: what stands there. -/
theorem altF_no {s : ByteArray} {st : Sc} (rows row : List T) (hat : st.at_ ≤ s.size) (hok : (repV s st).1.2 = false) :
    (isB s (repV s st).2 124 = false ∧ altF s rows row st = (Lv.done ⟨rows, row⟩, (repV s st).2)) ∨
    (isB s (repV s st).2 124 = true ∧ (repV s st).2 = st ∧ altF s rows row st = altF s (rows ++ [oneN 2 row]) [] st.adv) := by
  have hok2 : (atomV s st).1.2 = false := by
    unfold repV at hok
    split at hok
    · cases hok
    · exact hok
  have hrep : repV s st = atomV s st := by unfold repV; rw [if_neg (by rw [hok2]; decide)]
  obtain ⟨n, hn⟩ : ∃ n, n = s.size - st.at_ := ⟨_, rfl⟩
  have e0 : altF s rows row st = altGo s (n + 1) rows row st := by unfold altF; congr 1; omega
  rw [hrep]
  by_cases hg : goes s st ∧ gb s st.at_ ≠ 41 ∧ gb s st.at_ ≠ 124
  · by_cases hbad : badC (gb s st.at_) = true
    · left
      have hA : atomV s st = ((zN, false), st.fail st.at_ 2) := by unfold atomV; rw [if_pos hg, if_pos hbad]
      rw [hA]
      refine ⟨isB_ne ?_ 124, by rw [e0, altGo, if_pos hg, if_pos hbad]⟩
      unfold Sc.fail
      rw [if_pos hg.1.1]
      exact two_ne
    · exfalso
      unfold atomV at hok2
      rw [if_pos hg, if_neg hbad] at hok2
      split at hok2 <;> cases hok2
  · have hA : atomV s st = ((zN, false), st) := by unfold atomV; rw [if_neg hg]
    rw [hA]
    dsimp only
    cases hb : isB s st 124 with
    | false => left; exact ⟨rfl, by rw [e0, altGo, if_neg hg, hb, if_neg (by decide)]⟩
    | true =>
      right
      have h1 := isB_lt hb
      have ha : st.adv.at_ = st.at_ + 1 := rfl
      have hl : st.at_ < s.size := h1.2.1
      refine ⟨rfl, rfl, ?_⟩
      rw [e0, altGo, if_neg hg, hb, if_pos rfl]
      exact altF_fuel n _ _ h1.2.1 (by omega)
end Go.Proofs.Ytmkcbbamfkafmaa.P
/- The document's reader: Alt, what lies in memory. -/
namespace Go.Proofs.Ytmkcbbamfkafmaa.P
open Go.RowKit Go.Proofs.Ytmkcbbamfkafmaa Go.Proofs.YtmkcbbamfkafmaaW.PrintWords Go.Proofs.YtmkcbbamfkafmaaW.PrintLast Go.Proofs.YtmkcbbamfkafmaaW.PrintMore
set_option linter.unusedVariables false
set_option linter.unusedSimpArgs false
theorem sev_f (kind : Int) (l : List T) : ostinatoref02_several.f kind l = some ((oneN kind l).f0, (oneN kind l).f1.f0, (oneN kind l).f1.f1, (oneN kind l).f1.f2, (oneN kind l).f1.f3, (oneN kind l).f2, (oneN kind l).f3, (oneN kind l).f4) := by
  unfold ostinatoref02_several.f oneN
  match l with
  | [] => simp [zN]
  | [x] => simp [rd_T28]
  | x :: y :: r =>
    have h0 : ¬ (((x :: y :: r).length : Int) = 0) := by simp only [List.length_cons]; omega
    have h1 : ¬ (((x :: y :: r).length : Int) = 1) := by simp only [List.length_cons]; omega
    rw [if_neg h0, if_neg h1]
theorem sev_q (kind : Int) (own : Own) (A : Option Addr) (c : Nat) (l : List T) (w : World) (hl : l.length ≤ c) (hF : Kd.F k28 w (okO own) A l.length l) (hnew : ∀ k, w.heap.size ≤ k → own k = none) :
    Calls Try.prog 44 #[.int .i64 kind, .slice A l.length c] w fun e w' => ∃ q : Pn, Hid (q.t = oneN kind l) ∧
      e = .returned (.agg #[.int .i64 q.t.f0, .int .u64 q.t.f1.f0, .int .u64 q.t.f1.f1, .int .u64 q.t.f1.f2, .int .u64 q.t.f1.f3, .slice q.A q.t.f2.length q.c, .int .i64 q.t.f3, .int .i64 q.t.f4]) ∧ Below w.heap.size w w' ∧ Nd w' own q := by
  refine (ostinatoref02_several.calls kind (okO own) A c l _ _ _ _ _ _ _ _ w (Kd.V_mk hl hF) (sev_f kind l)).mono fun e w' h => ?_
  obtain ⟨v, he, ⟨A', c', hv, hle, hf⟩, hb⟩ := h
  subst hv
  refine ⟨⟨oneN kind l, A', c'⟩, (rfl : _ = _), he, hb, ⟨?_, hle⟩⟩
  refine Kd.F_mono (Kd.F_bound hf) fun k hk => ?_
  rcases hk.1 with h | h
  · exact h
  · exact hnew k (by omega)
theorem grown_keep {W w' : World} {own : Own} {g tag : Nat} {b : Option Nat} (hg : W.grownBy w' b) (hb : ∀ k, b = some k → own k = some tag) (hat : b = some g ∨ W.heap.size ≤ g) :
    Keeps W w' own (fun k => if k = g then some tag else own k) ∧ ∀ i, i < W.heap.size → ∀ t, own i = some t → t ≠ tag → w'.heap[i]? = W.heap[i]? ∧ (if i = g then some tag else own i) = some t := by
  have same : ∀ k, k < W.heap.size → own k ≠ some tag → w'.heap[k]? = W.heap[k]? := fun k hk ho => hg.block k hk (fun e => ho (hb k e.symm))
  have gne : ∀ k, k < W.heap.size → own k ≠ some tag → k ≠ g := fun k hk ho e => by
    subst e
    rcases hat with h | h
    · exact ho (hb k h)
    · omega
  refine ⟨⟨hg.size, fun k hk ho => same k hk (by rw [ho]; simp), fun k hk ho => by show (if k = g then _ else _) = _; rw [if_neg (gne k hk (by rw [ho]; simp))]; exact ho⟩, fun i hi t ht h2 => ?_⟩
  have hne : own i ≠ some tag := by rw [ht]; intro h; injection h with h; exact h2 h
  exact ⟨same i hi hne, by rw [if_neg (gne i hi hne)]; exact ht⟩
/-- The reader, the rows, and the row that is being read. -/
structure AltI (w W : World) (R : Nat) (s : ByteArray) (st : Sc) (own : Own) (vr vw : Value) (rows row : List T) (p0 p1 : List Pn) : Prop where
  rs : ResN w W R s st
  rows : Rw W w.heap.size own 2 vr rows p0
  row : Rw W w.heap.size own 3 vw row p1
  new : ∀ k, W.heap.size ≤ k → own k = none
  low : ∀ k, k ≤ w.heap.size → own k = some 0
namespace AltI
variable {w W W' : World} {R : Nat} {s : ByteArray} {st st' : Sc} {own : Own} {vr vw : Value} {rows row : List T} {p0 p1 : List Pn}
theorem start (h : RdR w R s st) : AltI w (w.alloc (.cells zcs 28)) R s st (fun k => if k ≤ w.heap.size then some 0 else none) (.slice none 0 0) (.slice none 0 0) [] [] [] [] :=
  ⟨ResN.start h, Rw.nil _ _ _ _, Rw.nil _ _ _ _, fun k hk => by simp at hk; exact if_neg (by omega), fun k hk => if_pos hk⟩
theorem call (h : AltI w W R s st own vr vw rows row p0 p1) (hr : RdR W' R s st') (hf : Fr W.heap.size R W W') : AltI w W' R s st' own vr vw rows row p0 p1 := by
  have hR0 : own R = some 0 := h.low R (Nat.le_of_lt h.rs.lt)
  have hne : ∀ i t, own i = some t → t ≠ 0 → i ≠ R := fun i t hi ht e => by
    rw [e, hR0] at hi
    injection hi with hi
    exact ht hi.symm
  have hnn : ∀ i, own i = none → i ≠ R := fun i hi e => by rw [e, hR0] at hi; cases hi
  have k : Keeps W W' own own := ⟨hf.size, fun i hi ho => hf.block i hi (hnn i ho), fun _ _ ho => ho⟩
  exact ⟨h.rs.call hr hf, h.rows.keep k (fun i hi ho => hf.block i hi (hne i 2 ho (by decide))) (fun _ _ ho => ho), h.row.keep k (fun i hi ho => hf.block i hi (hne i 3 ho (by decide))) (fun _ _ ho => ho), fun k hk => h.new k (Nat.le_trans hf.size hk), h.low⟩
theorem below (h : AltI w W R s st own vr vw rows row p0 p1) (hb : Below W.heap.size W W') : AltI w W' R s st own vr vw rows row p0 p1 := h.call (h.rs.rd.below hb) (Fr.of_below hb (Nat.le_refl _))
/-- A node that a call has handed back. -/
theorem node (h : AltI w W R s st own vr vw rows row p0 p1) {t : T} {A : Option Addr} {c : Nat} (hF : FN W W' t A c) : Nd W' own ⟨t, A, c⟩ := ⟨Kd.F_mono hF.2 fun k hk => h.new k hk, hF.1⟩
theorem nd_below {own : Own} {p : Pn} (h : Nd W own p) (hb : Below W.heap.size W W') : Nd W' own p := h.keep ⟨hb.size, fun k hk _ => hb.block k hk, fun _ _ ho => ho⟩
theorem size (h : AltI w W R s st own vr vw rows row p0 p1) : w.heap.size < W.heap.size := blk_lt h.rs.res
theorem res_keep {own' : Own} (h : AltI w W R s st own vr vw rows row p0 p1) (hos : W'.os = W.os) (htp : W'.tape = W.tape) (hou : W'.output = W.output) (hsz : W.heap.size ≤ W'.heap.size) (hk : ∀ k, k ≤ w.heap.size → W'.heap[k]? = W.heap[k]?) : ResN w W' R s st :=
  ⟨h.rs.rd.keep (hk R (Nat.le_of_lt h.rs.lt)), (hk _ (Nat.le_refl _)).trans h.rs.res, h.rs.fr.trans ⟨hos, htp, hou, hsz, fun k hl _ => hk k (Nat.le_of_lt hl)⟩, h.rs.lt⟩
/-- A node put behind the row. -/
theorem app3 (h : AltI w W R s st own vr vw rows row p0 p1) (p : Pn) (hp : Nd W own p) (hl : row.length ≤ 100000) :
    ∃ v' w', (AppS #[26, 26] 26 #[vw, .slice (some ⟨W.heap.size, 0, none⟩) 1 1]).run Try.prog (W.alloc (.cells #[.int .i64 p.t.f0, .int .u64 p.t.f1.f0, .int .u64 p.t.f1.f1, .int .u64 p.t.f1.f2, .int .u64 p.t.f1.f3, .slice p.A p.t.f2.length p.c, .int .i64 p.t.f3, .int .i64 p.t.f4] 28)) = .ok v' w' ∧
      Hid (∃ own', AltI w w' R s st own' vr v' rows (row ++ [p.t]) p0 (p1 ++ [p])) := by
  obtain ⟨W1, hW1⟩ : ∃ W1, W1 = W.alloc (.cells #[.int .i64 p.t.f0, .int .u64 p.t.f1.f0, .int .u64 p.t.f1.f1, .int .u64 p.t.f1.f2, .int .u64 p.t.f1.f3, .slice p.A p.t.f2.length p.c, .int .i64 p.t.f3, .int .i64 p.t.f4] 28) := ⟨_, rfl⟩
  have hb1 : Below W.heap.size W W1 := by rw [hW1]; exact box_belowS _ _
  have h1 := h.below hb1
  have hp1 := nd_below hp hb1
  have hbl : W1.heap[W.heap.size]? = some (.cells p.cells.toArray 28 (0, 0)) := by rw [hW1]; exact heap_alloc_new W _
  obtain ⟨g, c, w', hr, h2, h3, h4⟩ := app_node W1 w.heap.size vw p1 h1.row.row (Nat.le_of_lt h1.size) W.heap.size p.cells rfl (cells_one p) hbl (by rw [h1.row.len]; exact hl)
  rw [← hW1]
  refine ⟨_, w', hr, Lib.hid ⟨fun k => if k = g then some 3 else own k, ?_⟩⟩
  obtain ⟨kp, ko⟩ := grown_keep (tag := 3) h3 h1.row.tag h4
  have hgs : g < w'.heap.size := (h2.lt g rfl).2
  have hg3 : ∀ k, k ≤ w.heap.size → k ≠ g := fun k hk e => by
    have h5 := (ko k (by have := h1.size; omega) 0 (h1.low k hk) (by decide)).2
    rw [if_pos e] at h5
    cases h5
  refine ⟨h1.res_keep (own' := own) h3.os h3.tape h3.output h3.size fun k hk => (ko k (by have := h1.size; omega) 0 (h1.low k hk) (by decide)).1,
    h1.rows.keep kp (fun i hi ho => (ko i hi 2 ho (by decide)).1) (fun i hi ho => (ko i hi 2 ho (by decide)).2), ⟨?_, ?_, ?_, ?_⟩, fun k hk => ?_, fun k hk => ?_⟩
  · rw [List.map_append, h1.row.ts]; rfl
  · intro q hq
    rcases List.mem_append.1 hq with h | h
    · exact (h1.row.nd q h).keep kp
    · rw [List.mem_singleton.1 h]; exact hp1.keep kp
  · rw [ncs_append, ncs_one, List.length_append]; exact h2
  · intro k hk
    have : g = k := by injection hk
    exact if_pos this.symm
  · show (if k = g then _ else _) = _
    rw [if_neg (by omega)]
    exact h1.new k (Nat.le_trans h3.size hk)
  · show (if k = g then _ else _) = _
    rw [if_neg (hg3 k hk)]
    exact h1.low k hk
/-- A node put behind the rows. -/
theorem app2 (h : AltI w W R s st own vr vw rows row p0 p1) (p : Pn) (hp : Nd W own p) (hl : rows.length ≤ 100000) :
    ∃ v' w', (AppS #[26, 26] 26 #[vr, .slice (some ⟨W.heap.size, 0, none⟩) 1 1]).run Try.prog (W.alloc (.cells #[.int .i64 p.t.f0, .int .u64 p.t.f1.f0, .int .u64 p.t.f1.f1, .int .u64 p.t.f1.f2, .int .u64 p.t.f1.f3, .slice p.A p.t.f2.length p.c, .int .i64 p.t.f3, .int .i64 p.t.f4] 28)) = .ok v' w' ∧
      Hid (∃ own', AltI w w' R s st own' v' vw (rows ++ [p.t]) row (p0 ++ [p]) p1) := by
  obtain ⟨W1, hW1⟩ : ∃ W1, W1 = W.alloc (.cells #[.int .i64 p.t.f0, .int .u64 p.t.f1.f0, .int .u64 p.t.f1.f1, .int .u64 p.t.f1.f2, .int .u64 p.t.f1.f3, .slice p.A p.t.f2.length p.c, .int .i64 p.t.f3, .int .i64 p.t.f4] 28) := ⟨_, rfl⟩
  have hb1 : Below W.heap.size W W1 := by rw [hW1]; exact box_belowS _ _
  have h1 := h.below hb1
  have hp1 := nd_below hp hb1
  have hbl : W1.heap[W.heap.size]? = some (.cells p.cells.toArray 28 (0, 0)) := by rw [hW1]; exact heap_alloc_new W _
  obtain ⟨g, c, w', hr, h2, h3, h4⟩ := app_node W1 w.heap.size vr p0 h1.rows.row (Nat.le_of_lt h1.size) W.heap.size p.cells rfl (cells_one p) hbl (by rw [h1.rows.len]; exact hl)
  rw [← hW1]
  refine ⟨_, w', hr, Lib.hid ⟨fun k => if k = g then some 2 else own k, ?_⟩⟩
  obtain ⟨kp, ko⟩ := grown_keep (tag := 2) h3 h1.rows.tag h4
  have hgs : g < w'.heap.size := (h2.lt g rfl).2
  have hg3 : ∀ k, k ≤ w.heap.size → k ≠ g := fun k hk e => by
    have h5 := (ko k (by have := h1.size; omega) 0 (h1.low k hk) (by decide)).2
    rw [if_pos e] at h5
    cases h5
  refine ⟨h1.res_keep (own' := own) h3.os h3.tape h3.output h3.size fun k hk => (ko k (by have := h1.size; omega) 0 (h1.low k hk) (by decide)).1, ⟨?_, ?_, ?_, ?_⟩,
    h1.row.keep kp (fun i hi ho => (ko i hi 3 ho (by decide)).1) (fun i hi ho => (ko i hi 3 ho (by decide)).2), fun k hk => ?_, fun k hk => ?_⟩
  · rw [List.map_append, h1.rows.ts]; rfl
  · intro q hq
    rcases List.mem_append.1 hq with h | h
    · exact (h1.rows.nd q h).keep kp
    · rw [List.mem_singleton.1 h]; exact hp1.keep kp
  · rw [ncs_append, ncs_one, List.length_append]; exact h2
  · intro k hk
    have : g = k := by injection hk
    exact if_pos this.symm
  · show (if k = g then _ else _) = _
    rw [if_neg (by omega)]
    exact h1.new k (Nat.le_trans h3.size hk)
  · show (if k = g then _ else _) = _
    rw [if_neg (hg3 k hk)]
    exact h1.low k hk
/-- The row isn't written any more. -/
theorem frz3 (h : AltI w W R s st own vr vw rows row p0 p1) : ∃ own1 A c, vw = .slice A row.length c ∧ row.length ≤ c ∧ Kd.F k28 W (okO own1) A row.length row ∧ AltI w W R s st own1 vr (.slice none 0 0) rows [] p0 [] := by
  obtain ⟨own1, ho⟩ : ∃ own1 : Own, own1 = fun k => if own k = some 3 then none else own k := ⟨_, rfl⟩
  have o3 : ∀ i, own i = some 3 → own1 i = none := fun i hi => by rw [ho]; exact if_pos hi
  have on : ∀ i, own i ≠ some 3 → own1 i = own i := fun i hi => by rw [ho]; exact if_neg hi
  have o0 : ∀ i, own i = none → own1 i = none := fun i hi => (on i (by rw [hi]; simp)).trans hi
  obtain ⟨A, c, e, hc, hF⟩ := h.row.freeze (own1 := own1) (fun i _ hi => o0 i hi) (fun i _ hi => o3 i hi)
  refine ⟨own1, A, c, e, hc, hF, h.rs, h.rows.keep ⟨Nat.le_refl _, fun _ _ _ => rfl, fun k _ hk => o0 k hk⟩ (fun _ _ _ => rfl) (fun i _ hi => (on i (by rw [hi]; simp)).trans hi), Rw.nil _ _ _ _, fun k hk => o0 k (h.new k hk), fun k hk => (on k (by rw [h.low k hk]; simp)).trans (h.low k hk)⟩
/-- The rows aren't, either. -/
theorem frz2 (h : AltI w W R s st own vr vw rows row p0 p1) : ∃ own1 A c, vr = .slice A rows.length c ∧ rows.length ≤ c ∧ Kd.F k28 W (okO own1) A rows.length rows ∧ (∀ k, W.heap.size ≤ k → own1 k = none) ∧ (∀ k, k ≤ w.heap.size → own1 k = some 0) := by
  obtain ⟨own1, ho⟩ : ∃ own1 : Own, own1 = fun k => if own k = some 2 then none else own k := ⟨_, rfl⟩
  have o3 : ∀ i, own i = some 2 → own1 i = none := fun i hi => by rw [ho]; exact if_pos hi
  have on : ∀ i, own i ≠ some 2 → own1 i = own i := fun i hi => by rw [ho]; exact if_neg hi
  have o0 : ∀ i, own i = none → own1 i = none := fun i hi => (on i (by rw [hi]; simp)).trans hi
  obtain ⟨A, c, e, hc, hF⟩ := h.rows.freeze (own1 := own1) (fun i _ hi => o0 i hi) (fun i _ hi => o3 i hi)
  exact ⟨own1, A, c, e, hc, hF, fun k hk => o0 k (h.new k hk), fun k hk => (on k (by rw [h.low k hk]; simp)).trans (h.low k hk)⟩
end AltI
/-- The tree that Alt hands back. -/
theorem fnA_end {w W : World} {own : Own} {q : Pn} (h : Nd W own q) (low : ∀ k, k ≤ w.heap.size → own k = some 0) (x0 x1 x2 x3 x4 x5 x6 x7 : Value) :
    FN w ((((((((W.setCell ⟨w.heap.size, 0, none⟩ x0).setCell ⟨w.heap.size, 1, none⟩ x1).setCell ⟨w.heap.size, 2, none⟩ x2).setCell ⟨w.heap.size, 3, none⟩ x3).setCell ⟨w.heap.size, 4, none⟩ x4).setCell ⟨w.heap.size, 5, none⟩ x5).setCell ⟨w.heap.size, 6, none⟩ x6).setCell ⟨w.heap.size, 7, none⟩ x7) q.t q.A q.c := by
  have hk : ∀ k, okO own k → w.heap.size < k := fun k hk => by
    rcases Nat.lt_or_ge w.heap.size k with h | h
    · exact h
    · have e : own k = none := hk
      rw [low k h] at e
      cases e
  exact ⟨h.cap, Kd.F_mono (Kd.F_step h.f fun k hok hl => (far_resN W w.heap.size x0 x1 x2 x3 x4 x5 x6 x7).2 k (by have := hk k hok; omega)) fun k hok => Nat.le_of_lt (hk k hok)⟩
/-- The end of a function whose one result is a row in a block of its own. -/
theorem post_row_one {P : Program} {fn : Func} {R : Ending → World → Prop} {a : Act} {w : World} {p : Tmp} {T t : TypeId} {g : Nat} {cs : Array Value} {fr : Nat × Nat} {d : TypeDesc}
    (hr : fn.results = #[.cell p T]) (hp : a.tmps.getD p undef = .pointer (some ⟨g, 0, none⟩)) (hg : w.heap[g]? = some (.cells cs t fr))
    (hu : P.underlying T = some d) (hd : (match d with | .struct _ | .array _ _ => true | _ => false) = true) (hi : (P.info? T).map (·.size) = some cs.size) (hdf : a.defers = [])
    (hR : R (.returned (.agg cs)) w) : bodyPost P fn R .ret a w := by
  refine bodyPost_ret (v := .agg cs) ?_ hdf hR
  have hp' : a.tmps[p]?.getD undef = .pointer (some ⟨g, 0, none⟩) := by simpa using hp
  simp only [results, hr]
  simp [Sem.run_bind, Result.andThen, hp', asAddr, run_loadVar_row w g t T cs fr d hg hu hd hi]
/-- What is left of Alt. -/
theorem alt_leq {s : ByteArray} {st : Sc} (rows row : List T) (he : st.e ≠ 0) (hat : st.at_ ≤ s.size) : altF s rows row st = (Lv.done ⟨rows, row⟩, st) ∧ isB s st 124 = false := by
  have hb := isB_ne (s := s) he 124
  have hg : ¬ goes s st := fun h => he h.1
  refine ⟨?_, hb⟩
  unfold altF
  cases hn : s.size + 1 - st.at_ with
  | zero => omega
  | succ n => rw [altGo, if_neg (fun h => hg h.1), hb, if_neg (by decide)]
end Go.Proofs.Ytmkcbbamfkafmaa.P
/- The document's reader: Alt: the walk. Written by wip/gen_rd15.py. -/
namespace Go.Proofs.Ytmkcbbamfkafmaa.P
open Go.RowKit Go.Proofs.Ytmkcbbamfkafmaa Go.Proofs.YtmkcbbamfkafmaaW.PrintWords Go.Proofs.YtmkcbbamfkafmaaW.PrintLast Go.Proofs.YtmkcbbamfkafmaaW.PrintMore
set_option linter.unusedVariables false
set_option linter.unusedSimpArgs false
attribute [local go_sem ↓] loadS appS
set_option maxHeartbeats 8000000 in
theorem alt_walk (R : Nat) (s : ByteArray) (st : Sc) (w : World) (h : RdR w R s st) (hrep : ∀ st' W, st.at_ ≤ st'.at_ → RdR W R s st' → RepC R s st' W) : AltC R s st w := by
  have hI0 := AltI.start h
  obtain ⟨fin, hfin⟩ : ∃ fin, fin = altF s [] [] st := ⟨_, rfl⟩
  have HREP := Lib.hid hrep
  have HST : Hid (altF s [] [] st = fin) := Lib.hid hfin.symm
  unfold AltC
  rw [← hfin]
  have HI0 := Lib.hid hI0
  clear h hI0 hrep hfin
  go_enter Try.func29, Try.ntmps29
  go_wp2_with fail
  go_loopg [3, 4] (s.size + 1) (fun gg s3 s4 wr => ∃ (own : Own) (vr : Value) (rows : List T) (p0 : List Pn) (st1 : Sc) (n : Nat), vr = s3 ∧ s4 = .int .i64 (n : Int) ∧ AltI w wr R s st1 own vr (.slice none 0 0) rows [] p0 [] ∧ n ≤ st1.at_ ∧ rows.length = n ∧ st.at_ ≤ st1.at_ ∧ s.size + 1 - st1.at_ ≤ gg ∧ Hid (altF s rows [] st1 = fin))
  case atStart => exact ⟨_, _, [], [], st, 0, rfl, rfl, HI0.out, Nat.zero_le _, rfl, Nat.le_refl _, by omega, HST⟩
  case round =>
    obtain ⟨own, vr, rows, p0, st1, n, rfl, rfl, hI, hn, hrl, hle, hgg, hF⟩ := hrel
    obtain ⟨c0, c1, c2, c3⟩ := hI.rs.rd.cells
    have hat := hI.rs.rd.hat
    have hns : (n : Int) ≤ (s.size : Int) := by omega
    obtain ⟨m, hm⟩ : ∃ m : Nat, m = n + 1 := ⟨_, rfl⟩
    have hwr : IntKind.i64.wrap ((n : Int) + 1) = (m : Int) := by have := hI.rs.rd.hsz; rw [IntKind.wrap_i64]; omega
    have HRL : Hid (rows.length = n ∧ n ≤ 1000) := Lib.hid ⟨hrl, by have := hI.rs.rd.hsz; omega⟩
    have HMN := Lib.hid hm
    have HI := Lib.hid hI
    have HN := Lib.hid (And.intro hn hle)
    have HGG := Lib.hid hgg
    have HF := Lib.hid hF.out
    clear hI hn hrl hle hgg hF hat hm HI0 HST
    go_wp2_with fail
    obtain ⟨wo, hwo⟩ : ∃ wo, wo = wr := ⟨_, rfl⟩
    rw [← hwo] at HI
    go_loopg [5] (s.size + 1) (fun gg s5 wr => ∃ (own : Own) (vw : Value) (row : List T) (p1 : List Pn) (st2 : Sc), vw = s5 ∧ AltI w wr R s st2 own vr vw rows row p0 p1 ∧ row.length ≤ st2.at_ ∧ st1.at_ ≤ st2.at_ ∧ s.size + 1 - st2.at_ ≤ gg ∧ Hid (altF s rows row st2 = fin))
    case atStart => exact ⟨_, _, [], [], st1, rfl, hwo ▸ HI.out, Nat.zero_le _, Nat.le_refl _, by omega, HF⟩
    case round =>
      clear HI hwo c0 c1 c2 c3
      obtain ⟨own2, vw, row, p1, st2, rfl, hI2, hrw, hle2, hgg2, hF2⟩ := hrel
      obtain ⟨c0, c1, c2, c3⟩ := hI2.rs.rd.cells
      have hat2 := hI2.rs.rd.hat
      have hsz := hI2.rs.rd.hsz
      have HI2 := Lib.hid hI2
      have HRW := Lib.hid (show row.length ≤ st2.at_ ∧ st2.at_ ≤ s.size ∧ s.size ≤ 1000 from ⟨hrw, hat2, hsz⟩)
      have HLE := Lib.hid hle2
      have HG2 := Lib.hid hgg2
      clear hI2 hrw hle2 hgg2 hat2 hsz
      by_cases he : st2.e = 0
      · rw [he] at c3
        have hrp := HREP.out st2 wr (by have := HN.out; have := HLE.out; omega) HI2.out.rs.rd
        unfold RepC at hrp
        obtain ⟨V, hV⟩ : ∃ V, V = repV s st2 := ⟨_, rfl⟩
        rw [← hV] at hrp
        obtain ⟨⟨⟨tk, ⟨t0, t1, t2, t3⟩, tps, tlo, thi⟩, ok⟩, st3⟩ := V
        have HV : Hid (repV s st2 = ((⟨tk, ⟨t0, t1, t2, t3⟩, tps, tlo, thi⟩, ok), st3)) := Lib.hid hV.symm
        unfold ndV at hrp
        dsimp only at hrp
        clear hV he
        go_wp2_with fail
        refine hrp.mono ?_
        rintro x w2 ⟨A, c, rfl, hFN, hr3, hf3⟩
        have hI3 := HI2.out.call hr3 hf3
        have hnd := HI2.out.node hFN
        have hbx : Below w2.heap.size w2 (w2.alloc (.cells #[.int .i64 tk, .int .u64 t0, .int .u64 t1, .int .u64 t2, .int .u64 t3, .slice A tps.length c, .int .i64 tlo, .int .i64 thi] 28)) := box_belowS _ _
        have hI4 := hI3.below hbx
        have hnd4 := AltI.nd_below hnd hbx
        obtain ⟨b0, b1, b2, b3, b4, b5, b6, b7⟩ := n_cells (heap_alloc_new w2 (.cells #[.int .i64 tk, .int .u64 t0, .int .u64 t1, .int .u64 t2, .int .u64 t3, .slice A tps.length c, .int .i64 tlo, .int .i64 thi] 28))
        have HI4 := Lib.hid hI4
        clear hrp hFN hr3 hf3 hI3 hnd hbx c0 c1 c2 c3
        cases ok with
        | true =>
          have hal := altF_rep rows row HRW.out.2.1 (by rw [HV.out])
          rw [HV.out] at hal
          obtain ⟨v', w', happ, hI5⟩ := hI4.app3 ⟨⟨tk, ⟨t0, t1, t2, t3⟩, tps, tlo, thi⟩, A, c⟩ hnd4 (by have := HRW.out; omega)
          dsimp only at happ hI5
          rw [show (w2.alloc (.cells #[.int .i64 tk, .int .u64 t0, .int .u64 t1, .int .u64 t2, .int .u64 t3, .slice A tps.length c, .int .i64 tlo, .int .i64 thi] 28)).heap.size = w2.heap.size + 1 by simp] at happ
          have HAL := Lib.hid hal
          clear hal hI4 hnd4
          go_wp2_with fail
          go_roundg (s.size + 1 - st3.at_)
          case measure => have := HAL.out.2.1; have := HG2.out; have := HRW.out; omega
          case rel =>
            obtain ⟨own5, hI5⟩ := hI5.out
            refine ⟨own5, v', row ++ [⟨tk, ⟨t0, t1, t2, t3⟩, tps, tlo, thi⟩], _, st3, rfl, hI5, ?_, ?_, Nat.le_refl _, Lib.hid (HAL.out.1.symm.trans hF2.out)⟩
            · rw [List.length_append]
              have := HAL.out.2.1; have := HRW.out
              show row.length + 1 ≤ _
              omega
            · have := HAL.out.2.1; have := HLE.out; omega
        | false =>
          have hno := altF_no rows row HRW.out.2.1 (by rw [HV.out])
          rw [HV.out, hF2.out] at hno
          dsimp only at hno
          clear hI4 hnd4
          rcases hno with ⟨hB, hE⟩ | ⟨hB, hst, hE⟩
          · have HB := Lib.hid hB
            have HE := Lib.hid hE
            clear hB hE
            obtain ⟨own1, A1, c1, hvw, hc1, hF1, hI1⟩ := HI4.out.frz3
            subst hvw
            have hsv := sev_q 2 own1 A1 c1 row _ hc1 hF1 hI1.new
            have HI1 := Lib.hid hI1
            clear hF1 hI1 HI4
            go_wp2_with fail
            refine hsv.mono ?_
            rintro x w5 ⟨q, hq, rfl, hb5, hnd5⟩
            have hI5 := HI1.out.below hb5
            obtain ⟨v6, w6, happ, hI6⟩ := hI5.app2 q hnd5 (by have := HRL.out.1; have := HRL.out.2; omega)
            obtain ⟨rows2, hrows2⟩ : ∃ r, r = rows ++ [q.t] := ⟨_, rfl⟩
            rw [← hrows2] at hI6
            obtain ⟨own6, hI6⟩ := hI6.out
            have HR2 := Lib.hid hrows2
            have HI6 := Lib.hid hI6
            have htk := rr_no R s st3 w6 124 (by decide) (by decide) hI6.rs.rd HB.out
            clear hsv hI5 hI6 hb5 hnd5 hrows2
            go_wp2_with fail
            refine htk.mono ?_
            rintro x w7 ⟨rfl, hr7, hf7⟩
            have hI7 := HI6.out.call hr7 hf7
            obtain ⟨own8, A8, c8, hv6, hc8, hF8, hn8, hl8⟩ := hI7.frz2
            subst hv6
            have hsv := sev_q 3 own8 A8 c8 rows2 _ hc8 hF8 hn8
            have HI7 := Lib.hid hI7
            have HL8 := Lib.hid hl8
            clear htk hI7 hr7 hf7 happ hF8 hn8 hl8
            go_wp2_with fail
            refine hsv.mono ?_
            rintro x w9 ⟨q8, hq8, rfl, hb9, hnd9⟩
            have hI9 := HI7.out.below hb9
            obtain ⟨v0, v1, v2, v3, v4, v5, v6, v7⟩ := n_cells hI9.rs.res
            obtain ⟨z0, z1, z2, z3, z4, z5, z6, z7⟩ := n_froz hI9.rs.res
            have HI9 := Lib.hid hI9
            have HN9 := Lib.hid hnd9
            clear hsv hI9 hnd9 hb9
            go_wp2_with fail
            refine post_row_one (g := w.heap.size) (cs := #[.int .i64 q8.t.f0, .int .u64 q8.t.f1.f0, .int .u64 q8.t.f1.f1, .int .u64 q8.t.f1.f2, .int .u64 q8.t.f1.f3, .slice q8.A q8.t.f2.length q8.c, .int .i64 q8.t.f3, .int .i64 q8.t.f4]) (t := 28) (fr := (0, 0)) Try.results29 rfl (blk_set8 HI9.out.rs.res) Try.underlying28 (by rfl) (by kernel_rfl) rfl ?_
            have hlt := HI9.out.rs.lt
            have hd : fin = (q8.t, st3) := by rw [HE.out, hq8.out, HR2.out, hq.out]; rfl
            rw [hd]
            exact ⟨q8.A, q8.c, rfl, fnA_end HN9.out HL8.out _ _ _ _ _ _ _ _, rd_set8 HI9.out.rs.rd (by omega) _ _ _ _ _ _ _ _, fr_set8 HI9.out.rs.fr (Nat.le_refl _) _ _ _ _ _ _ _ _⟩
          · have HB := Lib.hid hB
            have hlt := isB_lt hB
            have hadv : st3.adv.at_ = st3.at_ + 1 := rfl
            have HE : Hid (altF s (rows ++ [oneN 2 row]) [] st3.adv = fin) := Lib.hid (by rw [hst]; exact hE.symm)
            have HM : Hid (s.size + 1 - st3.adv.at_ < s.size + 1 - st1.at_) := Lib.hid (by have := HLE.out; rw [hadv, hst]; rw [hst] at hlt; omega)
            have HMM : Hid (m ≤ st3.adv.at_ ∧ st.at_ ≤ st3.adv.at_) := Lib.hid (by have := HN.out; have := HLE.out; have := HMN.out; rw [hadv, hst]; omega)
            clear hB hE hst hlt hadv
            obtain ⟨own1, A1, c1, hvw, hc1, hF1, hI1⟩ := HI4.out.frz3
            subst hvw
            have hsv := sev_q 2 own1 A1 c1 row _ hc1 hF1 hI1.new
            have HI1 := Lib.hid hI1
            clear hF1 hI1 HI4
            go_wp2_with fail
            refine hsv.mono ?_
            rintro x w5 ⟨q, hq, rfl, hb5, hnd5⟩
            have hI5 := HI1.out.below hb5
            obtain ⟨v6, w6, happ, hI6⟩ := hI5.app2 q hnd5 (by have := HRL.out.1; have := HRL.out.2; omega)
            obtain ⟨rows2, hrows2⟩ : ∃ r, r = rows ++ [q.t] := ⟨_, rfl⟩
            rw [← hrows2] at hI6
            obtain ⟨own6, hI6⟩ := hI6.out
            have HR2 := Lib.hid hrows2
            have HI6 := Lib.hid hI6
            have htk := rr_yes R s st3 w6 124 (by decide) (by decide) hI6.rs.rd HB.out
            clear hsv hI5 hI6 hb5 hnd5 hrows2
            go_wp2_with fail
            refine htk.mono ?_
            rintro x w7 ⟨rfl, hr7, hf7⟩
            have hI7 := HI6.out.call hr7 hf7
            have HI7 := Lib.hid hI7
            clear htk hI7 hr7 hf7 happ
            go_wp2
            go_roundg (s.size + 1 - st3.adv.at_)
            case measure => have := HM.out; have := HGG.out; omega
            case rel => exact ⟨own6, v6, rows2, p0 ++ [q], st3.adv, m, rfl, rfl, HI7.out, HMM.out.1, by rw [HR2.out, List.length_append, HRL.out.1, HMN.out]; rfl, HMM.out.2, Nat.le_refl _, Lib.hid (by rw [HR2.out, hq.out]; exact HE.out)⟩
      · obtain ⟨hE, hB⟩ := alt_leq (s := s) rows row he HRW.out.2.1
        rw [hF2.out] at hE
        obtain ⟨st3, hst3⟩ : ∃ st3, st3 = st2 := ⟨_, rfl⟩
        rw [← hst3] at hE hB HI2
        have HI4 := HI2
        have HB := Lib.hid hB
        have HE := Lib.hid hE
        clear hE hB HI2
        obtain ⟨own1, A1, c1, hvw, hc1, hF1, hI1⟩ := HI4.out.frz3
        subst hvw
        have hsv := sev_q 2 own1 A1 c1 row _ hc1 hF1 hI1.new
        have HI1 := Lib.hid hI1
        clear hF1 hI1 HI4
        go_wp2_with fail
        refine hsv.mono ?_
        rintro x w5 ⟨q, hq, rfl, hb5, hnd5⟩
        have hI5 := HI1.out.below hb5
        obtain ⟨v6, w6, happ, hI6⟩ := hI5.app2 q hnd5 (by have := HRL.out.1; have := HRL.out.2; omega)
        obtain ⟨rows2, hrows2⟩ : ∃ r, r = rows ++ [q.t] := ⟨_, rfl⟩
        rw [← hrows2] at hI6
        obtain ⟨own6, hI6⟩ := hI6.out
        have HR2 := Lib.hid hrows2
        have HI6 := Lib.hid hI6
        have htk := rr_no R s st3 w6 124 (by decide) (by decide) hI6.rs.rd HB.out
        clear hsv hI5 hI6 hb5 hnd5 hrows2
        go_wp2_with fail
        refine htk.mono ?_
        rintro x w7 ⟨rfl, hr7, hf7⟩
        have hI7 := HI6.out.call hr7 hf7
        obtain ⟨own8, A8, c8, hv6, hc8, hF8, hn8, hl8⟩ := hI7.frz2
        subst hv6
        have hsv := sev_q 3 own8 A8 c8 rows2 _ hc8 hF8 hn8
        have HI7 := Lib.hid hI7
        have HL8 := Lib.hid hl8
        clear htk hI7 hr7 hf7 happ hF8 hn8 hl8
        go_wp2_with fail
        refine hsv.mono ?_
        rintro x w9 ⟨q8, hq8, rfl, hb9, hnd9⟩
        have hI9 := HI7.out.below hb9
        obtain ⟨v0, v1, v2, v3, v4, v5, v6, v7⟩ := n_cells hI9.rs.res
        obtain ⟨z0, z1, z2, z3, z4, z5, z6, z7⟩ := n_froz hI9.rs.res
        have HI9 := Lib.hid hI9
        have HN9 := Lib.hid hnd9
        clear hsv hI9 hnd9 hb9
        go_wp2_with fail
        refine post_row_one (g := w.heap.size) (cs := #[.int .i64 q8.t.f0, .int .u64 q8.t.f1.f0, .int .u64 q8.t.f1.f1, .int .u64 q8.t.f1.f2, .int .u64 q8.t.f1.f3, .slice q8.A q8.t.f2.length q8.c, .int .i64 q8.t.f3, .int .i64 q8.t.f4]) (t := 28) (fr := (0, 0)) Try.results29 rfl (blk_set8 HI9.out.rs.res) Try.underlying28 (by rfl) (by kernel_rfl) rfl ?_
        have hlt := HI9.out.rs.lt
        have hd : fin = (q8.t, st3) := by rw [HE.out, hq8.out, HR2.out, hq.out]; rfl
        rw [hd]
        exact ⟨q8.A, q8.c, rfl, fnA_end HN9.out HL8.out _ _ _ _ _ _ _ _, rd_set8 HI9.out.rs.rd (by omega) _ _ _ _ _ _ _ _, fr_set8 HI9.out.rs.fr (Nat.le_refl _) _ _ _ _ _ _ _ _⟩
/-- Alt, of every text, at every place. -/
theorem alt_all (R : Nat) (s : ByteArray) : ∀ n, AltH R s n
  | 0 => fun st w h => by omega
  | n + 1 => fun st w h hr => by
    have ih := alt_all R s n
    refine alt_walk R s st w hr fun st' W hle hr' => rpt_any R s st' W hr' fun st2 w2 h2 hr2 => ih st2 w2 ?_ hr2
    have := hr'.hat
    omega
theorem alt_any (R : Nat) (s : ByteArray) (st : Sc) (w : World) (h : RdR w R s st) : AltC R s st w := alt_all R s _ st w (Nat.lt_succ_self _) h
end Go.Proofs.Ytmkcbbamfkafmaa.P
/- The document's reader: Parse: the walk. Written by wip/gen_rd16.py. -/
namespace Go.Proofs.Ytmkcbbamfkafmaa.P
open Go.RowKit Go.Proofs.Ytmkcbbamfkafmaa Go.Proofs.YtmkcbbamfkafmaaW.PrintWords Go.Proofs.YtmkcbbamfkafmaaW.PrintLast Go.Proofs.YtmkcbbamfkafmaaW.PrintMore
set_option linter.unusedVariables false
set_option linter.unusedSimpArgs false
theorem run_bdM {s : ByteArray} : ∀ (d : Nat) (m : Mc), s.size - m.sc.at_ ≤ d → BdN m → BdN (runF s m)
  | d, m, hd, h => by
    by_cases hg : goes s m.sc
    · rw [runF_go hg]
      have h1 := (step_at hg).1
      cases d with
      | zero => have := hg.2; omega
      | succ d => exact run_bdM d _ (by omega) (step_bdN hg h)
    · rw [runF_stop hg]; exact h
theorem run_cnt {s : ByteArray} (hs : s.size ≤ 400) : cntT (runF s m0).top.done ≤ 1000 := by
  have h := (run_bdM (s := s) _ m0 (Nat.le_refl _) m0_bdN).2
  have hat := (fn_run (s := s) _ m0 (Nat.le_refl _) (Nat.zero_le _) (.inl rfl)).2
  have h1 := cnt_done (runF s m0).top
  unfold tot at h
  omega
section
variable {s : ByteArray} {r : T × Sc} (hr : altF s [] [] ⟨0, 0, 0⟩ = r) (hs : s.size ≤ 400)
include hr hs
/-- Alt comes to an end at the text's end. -/
theorem alt_whole (he : r.2.e = 0) (hl : ¬ r.2.at_ < s.size) : cntT r.1 ≤ 1000 ∧ parseS s = if wideT r.1 then ⟨zN, 0, 3⟩ else ⟨r.1, 0, 0⟩ := by
  have hp : parseS s = if wideT r.1 then ⟨zN, 0, 3⟩ else ⟨r.1, 0, 0⟩ := by
    rw [← parse_eq]
    unfold refParse
    rw [if_neg (by omega)]
    dsimp only
    have hif : (if r.2.e = 0 ∧ r.2.at_ < s.size then r.2.fail r.2.at_ 2 else r.2) = r.2 := if_neg (fun h => hl h.2)
    have hne : ¬ r.2.e ≠ 0 := fun h => h he
    rw [hr, hif, if_neg hne]
  refine ⟨?_, hp⟩
  have h := alt_run (s := s) (s.size + 1) [] [] ⟨0, 0, 0⟩ [] (Nat.zero_le _) (by show s.size - 0 < _; omega) (.inl rfl)
  have hA : altF s [] [] ⟨0, 0, 0⟩ = altGo s (s.size + 1) [] [] ⟨0, 0, 0⟩ := rfl
  rw [← hA, hr] at h
  have hm : (⟨⟨0, 0, 0⟩, ⟨[], []⟩, []⟩ : Mc) = m0 := rfl
  rw [hm] at h
  obtain ⟨rows, row, e1, e2, e3⟩ := h.2 he
  have hrest : m0.rest = [] := rfl
  rw [hrest] at e2
  have hrun : runF s m0 = ⟨r.2, ⟨rows, row⟩, []⟩ := by
    rw [e2]
    exact runF_stop fun hg => hl hg.2
  have := run_cnt hs
  rw [hrun] at this
  rw [e1]
  exact this
theorem alt_over (he : r.2.e = 0) (hl : r.2.at_ < s.size) : parseS s = ⟨zN, r.2.at_, 2⟩ ∧ r.2.fail r.2.at_ 2 = ⟨r.2.at_, r.2.at_, 2⟩ := by
  have hf : r.2.fail r.2.at_ 2 = ⟨r.2.at_, r.2.at_, 2⟩ := by unfold Sc.fail; rw [if_pos he]
  refine ⟨?_, hf⟩
  rw [← parse_eq]
  unfold refParse
  rw [if_neg (by omega)]
  dsimp only
  have hif : (if r.2.e = 0 ∧ r.2.at_ < s.size then r.2.fail r.2.at_ 2 else r.2) = ⟨r.2.at_, r.2.at_, 2⟩ := by rw [if_pos ⟨he, hl⟩, hf]
  rw [hr, hif, if_pos two_ne]
theorem alt_err (he : r.2.e ≠ 0) : parseS s = ⟨zN, r.2.pl, r.2.e⟩ := by
  rw [← parse_eq]
  unfold refParse
  rw [if_neg (by omega)]
  dsimp only
  have hif : (if r.2.e = 0 ∧ r.2.at_ < s.size then r.2.fail r.2.at_ 2 else r.2) = r.2 := if_neg (fun h => he h.1)
  rw [hr, hif, if_pos he]
end
/-- The tree that Alt has handed back, in its variable. -/
structure ParP (w W : World) (R N : Nat) (s : ByteArray) (st : Sc) (t : T) (A : Option Addr) (c : Nat) : Prop where
  rd : RdR W R s st
  res : W.heap[w.heap.size]? = some (.cells zcs 28)
  blk : W.heap[N]? = some (.cells #[.int .i64 t.f0, .int .u64 t.f1.f0, .int .u64 t.f1.f1, .int .u64 t.f1.f2, .int .u64 t.f1.f3, .slice A t.f2.length c, .int .i64 t.f3, .int .i64 t.f4] 28)
  f : Kd.F k28 W (fun k => R < k ∧ k ≠ N) A t.f2.length t.f2
  cap : t.f2.length ≤ c
  bel : Below w.heap.size w W
  hR : R = w.heap.size + 1
  hN : R < N
namespace ParP
variable {w W W' w2 w3 : World} {R N c : Nat} {s : ByteArray} {st st' : Sc} {t : T} {A : Option Addr}
theorem call (h : ParP w W R N s st t A c) (hr : RdR W' R s st') (hf : Fr W.heap.size R W W') : ParP w W' R N s st' t A c := by
  have a1 := blk_lt h.res
  have a2 := blk_lt h.blk
  have a3 := h.hR
  have a4 := h.hN
  exact ⟨hr, (hf.block _ a1 (by omega)).trans h.res, (hf.block _ a2 (by omega)).trans h.blk, Kd.F_step h.f fun k hk hl => hf.block k hl (by have := hk.1; omega), h.cap, h.bel.trans (hf.below (by omega) (by omega)), a3, a4⟩
theorem below (h : ParP w W R N s st t A c) (hb : Below W.heap.size W W') : ParP w W' R N s st t A c := h.call (h.rd.below hb) (Fr.of_below hb (Nat.le_refl _))
theorem tr (h : ParP w W R N s st t A c) : Tr W t A c := ⟨Kd.F_now h.f, h.cap⟩
theorem start (hw2 : w2 = (w.alloc (.cells zcs 28)).alloc (.cells #[.string s, .int .i64 0, .int .i64 0, .int .i64 0] 56)) (hR : R = w.heap.size + 1) (hF : FN w2 w3 t A c) (hr : RdR w3 R s st) (hf : Fr w2.heap.size R w2 w3) :
    ParP w (w3.alloc (.cells #[.int .i64 t.f0, .int .u64 t.f1.f0, .int .u64 t.f1.f1, .int .u64 t.f1.f2, .int .u64 t.f1.f3, .slice A t.f2.length c, .int .i64 t.f3, .int .i64 t.f4] 28)) R w3.heap.size s st t A c := by
  have hsz : w2.heap.size = w.heap.size + 2 := by rw [hw2]; simp
  have h1 : Below w.heap.size w w2 := by rw [hw2]; exact (box_belowS w _).trans ((box_belowS _ _).mono (by simp))
  have hres2 : w2.heap[w.heap.size]? = some (.cells zcs 28) := by
    rw [hw2, heap_alloc_old _ _ (by simp)]
    exact heap_alloc_new w _
  have hsz3 := hf.size
  have hb3 : Below w.heap.size w w3 := h1.trans (hf.below (by omega) (by omega))
  have hbx : Below w3.heap.size w3 (w3.alloc (.cells #[.int .i64 t.f0, .int .u64 t.f1.f0, .int .u64 t.f1.f1, .int .u64 t.f1.f2, .int .u64 t.f1.f3, .slice A t.f2.length c, .int .i64 t.f3, .int .i64 t.f4] 28)) := box_belowS _ _
  refine ⟨hr.below hbx, ?_, heap_alloc_new w3 _, ?_, hF.1, hb3.trans (hbx.mono (by omega)), hR, by have := hr.lt; omega⟩
  · exact (hbx.block _ (by omega)).trans ((hf.block _ (by omega) (by omega)).trans hres2)
  · exact Kd.F_alloc (Kd.F_mono (Kd.F_bound hF.2) fun k hk => ⟨by have := hk.1; omega, by have := hk.2; omega⟩) _
end ParP
attribute [local go_sem ↓] loadS
theorem ref_big (s : ByteArray) (w : World) (hs : s.size > 400) : Calls Try.prog 14 #[.string s] w fun x w' => PAns s w x w' := by
  have hp : parseS s = ⟨zN, 0, 3⟩ := by unfold parseS; rw [if_pos hs]
  have hres := heap_alloc_new w (.cells zcs 28)
  have HRES := Lib.hid hres
  have HP := Lib.hid hp
  have hs' : (400 : Int) < (s.size : Int) := by omega
  clear hp hres
  go_enter Try.func14, Try.ntmps14
  go_wp2
  refine post_row_two Try.results14 rfl (heap_alloc_new w _) Try.underlying28 (by kernel_rfl) (by kernel_rfl) rfl rfl rfl ?_
  exact pans_zero HP.out (box_belowS _ _)
set_option maxHeartbeats 4000000 in
theorem ref_small (s : ByteArray) (w : World) (hs : s.size ≤ 400) : Calls Try.prog 14 #[.string s] w fun x w' => PAns s w x w' := by
  have hs' : ¬ (400 : Int) < (s.size : Int) := by omega
  obtain ⟨w2, hw2⟩ : ∃ w2, w2 = (w.alloc (.cells zcs 28)).alloc (.cells #[.string s, .int .i64 0, .int .i64 0, .int .i64 0] 56) := ⟨_, rfl⟩
  obtain ⟨R, hR⟩ : ∃ R, R = w.heap.size + 1 := ⟨_, rfl⟩
  have hrd : RdR w2 R s ⟨0, 0, 0⟩ := ⟨by rw [hw2, hR]; exact heap_alloc2_new w _ _, Nat.zero_le _, by omega⟩
  have halt := alt_any R s ⟨0, 0, 0⟩ w2 hrd
  unfold AltC at halt
  obtain ⟨r, hr⟩ : ∃ r, r = altF s [] [] ⟨0, 0, 0⟩ := ⟨_, rfl⟩
  rw [← hr] at halt
  have HALT := Lib.hid hr.symm
  obtain ⟨⟨tk, ⟨t0, t1, t2, t3⟩, tps, tlo, thi⟩, st3⟩ := r
  unfold ndV at halt
  dsimp only at halt
  have HW2 := Lib.hid hw2
  have HR := Lib.hid hR
  have HS := Lib.hid hs
  clear hr hrd hs
  go_enter Try.func14, Try.ntmps14
  go_wp2_with fail
  rw [← hw2, ← hR]
  clear hw2 hR
  refine halt.mono ?_
  rintro x w3 ⟨A, c, rfl, hF, hr3, hf3⟩
  have HP3 := Lib.hid (ParP.start HW2.out HR.out hF hr3 hf3)
  dsimp only at HP3
  obtain ⟨N, hN⟩ : ∃ N, N = w3.heap.size := ⟨_, rfl⟩
  clear halt hF hr3 hf3
  by_cases he : st3.e = 0
  · by_cases hl : st3.at_ < s.size
    · obtain ⟨ha, hf⟩ := alt_over HALT.out HS.out he hl
      dsimp only at ha hf
      obtain ⟨c0, c1, c2, c3⟩ := HP3.out.rd.cells
      have hfl := rr_fail R s st3 _ (st3.at_ : Int) 2 HP3.out.rd
      rw [hf] at hfl
      rw [he] at c3
      have hl' : (st3.at_ : Int) < (s.size : Int) := by omega
      obtain ⟨p4, hp4⟩ : ∃ p4 : Int, p4 = st3.at_ := ⟨_, rfl⟩
      obtain ⟨e4, he4⟩ : ∃ e4 : Int, e4 = 2 := ⟨_, rfl⟩
      rw [← hp4] at c1 hl' ha
      have HA : Hid (parseS s = ⟨zN, p4, e4⟩) := Lib.hid (by rw [ha, he4])
      have HE4 := Lib.hid he4
      rw [← hp4] at hfl
      have HPP := Lib.hid hp4
      clear he ha hf hp4 he4
      go_wp2_with fail
      refine hfl.mono ?_
      rintro x w5 ⟨rfl, hr5, hf5⟩
      have hP := HP3.out.call hr5 hf5
      have he4 := HE4.out
      have hz : (e4 == 0) = false := by rw [he4]; rfl
      have hz2 : (e4 != 0) = true := by rw [he4]; rfl
      rw [← he4] at hP
      have HP := Lib.hid hP
      clear hfl hr5 hf5 hP c0 c1 c2 c3 he4
      obtain ⟨c0, c1, c2, c3⟩ := HP.out.rd.cells
      dsimp only at c0 c1 c2 c3
      obtain ⟨v0, v1, v2, v3, v4, v5, v6, v7⟩ := n_cells HP.out.res
      obtain ⟨q0, q1, q2, q3, q4, q5, q6, q7⟩ := n_froz HP.out.res
      have n1 : ¬ R = w.heap.size := by have := HP.out.hR; omega
      have n2 : ¬ w.heap.size = R := fun e => n1 e.symm
      go_wp2_with fail
      go_region
      have hZ := blk_set8d (a := .int .i64 0) (b := .int .u64 0) (c := .int .u64 0) (d := .int .u64 0) (e := .int .u64 0) (f := .slice none 0 0) (p := .int .i64 0) (q := .int .i64 0) HP.out.res
      have hBl := (below_set8 HP.out.bel (Nat.le_refl _) (.int .i64 0) (.int .u64 0) (.int .u64 0) (.int .u64 0) (.int .u64 0) (.slice none 0 0) (.int .i64 0) (.int .i64 0)).drew
      clear c0 c1 c2 c3 v0 v1 v2 v3 v4 v5 v6 v7 q0 q1 q2 q3 q4 q5 q6 q7
      generalize World.drew _ = wZ at hZ hBl ⊢
      go_wp2
      refine post_row_two (g := w.heap.size) (cs := zcs) (t := 28) (fr := (0, 0)) (x := .int .i64 p4) (y := .int .i64 e4) Try.results14 rfl hZ Try.underlying28 (by rfl) (by kernel_rfl) rfl rfl rfl ?_
      exact pans_zero HA.out hBl
    · obtain ⟨hc, ha⟩ := alt_whole HALT.out HS.out he hl
      dsimp only at hc ha
      obtain ⟨c0, c1, c2, c3⟩ := HP3.out.rd.cells
      rw [he] at c3
      have hl' : ¬ (st3.at_ : Int) < (s.size : Int) := by omega
      have hdep := tr_refDepth ⟨tk, ⟨t0, t1, t2, t3⟩, tps, tlo, thi⟩ A c _ (by omega) HP3.out.tr
      unfold ndV at hdep
      obtain ⟨n0, n1, n2, n3, n4, n5, n6, n7⟩ := n_cells HP3.out.blk
      obtain ⟨dd, hdd⟩ : ∃ dd, dd = depthT ⟨tk, ⟨t0, t1, t2, t3⟩, tps, tlo, thi⟩ := ⟨_, rfl⟩
      rw [← hdd] at hdep
      have HA := Lib.hid ha
      have HC := Lib.hid hc
      have HDD := Lib.hid hdd
      clear ha hc hdd he
      go_wp2_with fail
      refine hdep.mono ?_
      rintro x w5 ⟨rfl, b5⟩
      have HP5 := Lib.hid (HP3.out.below b5)
      clear hdep b5 c0 c1 c2 c3 n0 n1 n2 n3 n4 n5 n6 n7
      by_cases hdp : (20 : Int) < (dd : Int)
      · have hans : Hid (parseS s = ⟨zN, 0, 3⟩) := Lib.hid (by
          rw [HA.out, if_pos]
          exact .inl (by have := HDD.out; omega))
        obtain ⟨v0, v1, v2, v3, v4, v5, v6, v7⟩ := n_cells HP5.out.res
        obtain ⟨q0, q1, q2, q3, q4, q5, q6, q7⟩ := n_froz HP5.out.res
        go_wp2_with fail
        refine post_row_two (g := w.heap.size) (cs := zcs) (t := 28) (fr := (0, 0)) (x := .int .i64 0) (y := .int .i64 3) Try.results14 rfl (blk_set8 HP5.out.res) Try.underlying28 (by rfl) (by kernel_rfl) rfl rfl rfl ?_
        exact pans_zero hans.out (below_set8 HP5.out.bel (Nat.le_refl _) (.int .i64 0) (.int .u64 0) (.int .u64 0) (.int .u64 0) (.int .u64 0) (.slice none 0 0) (.int .i64 0) (.int .i64 0))
      · have hpl := tr_refPlaces ⟨tk, ⟨t0, t1, t2, t3⟩, tps, tlo, thi⟩ A c w5 (by have := HC.out; omega) HP5.out.tr
        unfold ndV at hpl
        obtain ⟨pp, hpp⟩ : ∃ pp, pp = placesT ⟨tk, ⟨t0, t1, t2, t3⟩, tps, tlo, thi⟩ := ⟨_, rfl⟩
        rw [← hpp] at hpl
        have HPP := Lib.hid hpp
        clear hpp
        obtain ⟨n0, n1, n2, n3, n4, n5, n6, n7⟩ := n_cells HP5.out.blk
        dsimp only at n0 n1 n2 n3 n4 n5 n6 n7
        go_wp2_with fail
        refine hpl.mono ?_
        rintro x w9 ⟨rfl, b9⟩
        have HP9 := Lib.hid (HP5.out.below b9)
        have hne : ¬ w3.heap.size = w.heap.size := by have := HP9.out.hR; have := HP9.out.hN; omega
        have hne2 : ¬ w.heap.size = w3.heap.size := fun e => hne e.symm
        clear n0 n1 n2 n3 n4 n5 n6 n7 hpl b9
        obtain ⟨n0, n1, n2, n3, n4, n5, n6, n7⟩ := n_cells HP9.out.blk
        dsimp only at n0 n1 n2 n3 n4 n5 n6 n7
        obtain ⟨v0, v1, v2, v3, v4, v5, v6, v7⟩ := n_cells HP9.out.res
        obtain ⟨q0, q1, q2, q3, q4, q5, q6, q7⟩ := n_froz HP9.out.res
        by_cases hpz : (40 : Int) < (pp : Int)
        · have hans : Hid (parseS s = ⟨zN, 0, 3⟩) := Lib.hid (by
            rw [HA.out, if_pos]
            exact .inr (by have := HPP.out; omega))
          go_wp2_with fail
          refine post_row_two (g := w.heap.size) (cs := zcs) (t := 28) (fr := (0, 0)) (x := .int .i64 0) (y := .int .i64 3) Try.results14 rfl (blk_set8 HP9.out.res) Try.underlying28 (by rfl) (by kernel_rfl) rfl rfl rfl ?_
          exact pans_zero hans.out (below_set8 HP9.out.bel (Nat.le_refl _) (.int .i64 0) (.int .u64 0) (.int .u64 0) (.int .u64 0) (.int .u64 0) (.slice none 0 0) (.int .i64 0) (.int .i64 0))
        · have hans : Hid (parseS s = ⟨⟨tk, ⟨t0, t1, t2, t3⟩, tps, tlo, thi⟩, 0, 0⟩) := Lib.hid (by
            rw [HA.out, if_neg]
            rintro (h | h)
            · have := HDD.out; omega
            · have := HPP.out; omega)
          go_wp2_with fail
          refine post_row_two (g := w.heap.size) (cs := #[.int .i64 tk, .int .u64 t0, .int .u64 t1, .int .u64 t2, .int .u64 t3, .slice A tps.length c, .int .i64 tlo, .int .i64 thi]) (t := 28) (fr := (0, 0)) (x := .int .i64 0) (y := .int .i64 0) Try.results14 rfl (blk_set8 HP9.out.res) Try.underlying28 (by rfl) (by kernel_rfl) rfl rfl rfl ?_
          have hbF := below_set8 HP9.out.bel (Nat.le_refl _) (.int .i64 tk) (.int .u64 t0) (.int .u64 t1) (.int .u64 t2) (.int .u64 t3) (.slice A tps.length c) (.int .i64 tlo) (.int .i64 thi)
          have hfar := far_resN w9 w.heap.size (.int .i64 tk) (.int .u64 t0) (.int .u64 t1) (.int .u64 t2) (.int .u64 t3) (.slice A tps.length c) (.int .i64 tlo) (.int .i64 thi)
          have hFF := Kd.F_step HP9.out.f fun k hk hl => hfar.2 k (by have := hk.1; have := HP9.out.hR; omega)
          refine ⟨A, c, ?_, ?_, ?_, hbF⟩
          · rw [hans.out]; rfl
          · rw [hans.out]; exact HP9.out.cap
          · rw [hans.out]; exact Kd.F_now hFF
  · have ha := alt_err HALT.out HS.out he
    dsimp only at ha
    obtain ⟨a4, p4, e4⟩ := st3
    dsimp only at he ha HP3
    have hz : (e4 == 0) = false := by simp [he]
    have hz2 : (e4 != 0) = true := by simp [he]
    have HA := Lib.hid ha
    have HP := HP3
    clear ha HP3 HALT
    obtain ⟨c0, c1, c2, c3⟩ := HP.out.rd.cells
    dsimp only at c0 c1 c2 c3
    obtain ⟨v0, v1, v2, v3, v4, v5, v6, v7⟩ := n_cells HP.out.res
    obtain ⟨q0, q1, q2, q3, q4, q5, q6, q7⟩ := n_froz HP.out.res
    have n1 : ¬ R = w.heap.size := by have := HP.out.hR; omega
    have n2 : ¬ w.heap.size = R := fun e => n1 e.symm
    go_wp2_with fail
    go_region
    have hZ := blk_set8d (a := .int .i64 0) (b := .int .u64 0) (c := .int .u64 0) (d := .int .u64 0) (e := .int .u64 0) (f := .slice none 0 0) (p := .int .i64 0) (q := .int .i64 0) HP.out.res
    have hBl := (below_set8 HP.out.bel (Nat.le_refl _) (.int .i64 0) (.int .u64 0) (.int .u64 0) (.int .u64 0) (.int .u64 0) (.slice none 0 0) (.int .i64 0) (.int .i64 0)).drew
    clear c0 c1 c2 c3 v0 v1 v2 v3 v4 v5 v6 v7 q0 q1 q2 q3 q4 q5 q6 q7
    generalize World.drew _ = wZ at hZ hBl ⊢
    go_wp2
    refine post_row_two (g := w.heap.size) (cs := zcs) (t := 28) (fr := (0, 0)) (x := .int .i64 p4) (y := .int .i64 e4) Try.results14 rfl hZ Try.underlying28 (by rfl) (by kernel_rfl) rfl rfl rfl ?_
    exact pans_zero HA.out hBl
theorem ref_any (s : ByteArray) (w : World) : Calls Try.prog 14 #[.string s] w fun x w' => ∃ A c, x = .returned (.tuple #[ndV (parseS s).t A c, .int .i64 (parseS s).pl, .int .i64 (parseS s).e]) ∧ Tr w' (parseS s).t A c ∧ Below w.heap.size w w' := by
  have h : Calls Try.prog 14 #[.string s] w fun x w' => PAns s w x w' := by
    by_cases hs : s.size > 400
    · exact ref_big s w hs
    · exact ref_small s w (by omega)
  exact h.mono fun x w' ⟨A, c, h1, h2, h3, h4⟩ => ⟨A, c, h1, ⟨h3, h2⟩, h4⟩
end Go.Proofs.Ytmkcbbamfkafmaa.P
/- SyntaxParses: the walk. -/
namespace Go.Proofs.Ytmkcbbamfkafmaa.P
open Go.RowKit Go.Proofs.Ytmkcbbamfkafmaa Go.Proofs.YtmkcbbamfkafmaaW.PrintWords Go.Proofs.YtmkcbbamfkafmaaW.PrintLast Go.Proofs.YtmkcbbamfkafmaaW.PrintMore
set_option linter.unusedVariables false
set_option linter.unusedSimpArgs false
/-- The call of the reference's Parse, where it is known what comes. -/
theorem ref_q (s : ByteArray) (w : World) (x : T) (pl e : Int) (h : parseS s = ⟨x, pl, e⟩) : Calls Try.prog 14 #[.string s] w fun v w' => ∃ (A : Option Addr) (c : Nat),
    v = .returned (.tuple #[ndV x A c, .int .i64 pl, .int .i64 e]) ∧ Tr w' x A c ∧ Below w.heap.size w w' := by
  have := ref_any s w
  rw [h] at this
  exact this
set_option maxHeartbeats 4000000 in
theorem parses_any (s : ByteArray) (w : World) : Calls Try.prog 8 #[.string s] w fun e w' => e = .returned (.bool true) ∧ Below w.heap.size w w' := by
  go_enter Try.func8, Try.ntmps8
  go_wp2_with fail
  refine (awake_any _).mono ?_
  rintro x w1 ⟨rfl, hb1⟩
  by_cases hs : s.size > 420
  · have hz : (s.size : Int) > 420 := by omega
    go_wp2_with fail
    refine (awake_any _).mono ?_
    rintro x w2 ⟨rfl, hb2⟩
    go_wp2
    go_ret
    exact ⟨rfl, ext_trans hb1 hb2⟩
  · have hz : ¬ (s.size : Int) > 420 := by omega
    go_wp2_with fail
    refine (parse_q s w1).mono ?_
    rintro x w2 ⟨tk, t0, t1, t2, t3, tps, tlo, thi, A, c, pl, e, rfl, hp, hT, hb2⟩
    have hbw := ext_trans hb1 hb2
    have bx := Bx.new hT.out
    have hb3 : Below w.heap.size w (w2.alloc (nO ⟨tk, ⟨t0, t1, t2, t3⟩, tps, tlo, thi⟩ A c)) := hbw.alloc hbw.size _
    obtain ⟨w3, hw3⟩ : ∃ w3, w3 = w2.alloc (nO ⟨tk, ⟨t0, t1, t2, t3⟩, tps, tlo, thi⟩ A c) := ⟨_, rfl⟩
    rw [← hw3] at bx hb3
    unfold nO at hw3
    dsimp only at hw3
    have hq := ref_q s w3 _ _ _ hp.out
    unfold ndV at hq
    dsimp only at hq
    have hlt3 : w2.heap.size < w3.heap.size := blk_lt bx.blk
    have HW3 := Lib.hid hw3
    have HBX := Lib.hid bx
    have HB3 := Lib.hid hb3
    clear hT hb1 hb2 hbw bx hb3
    go_wp2_with fail
    rw [← hw3]
    clear hw3 HW3
    refine hq.mono ?_
    rintro x w4 ⟨B, d, rfl, hT2, hb4⟩
    have bx4 := HBX.out.later hb4
    have by4 := Bx.new hT2
    have hb5 := ext_trans HB3.out hb4
    have hb6 : Below w.heap.size w (w4.alloc (nO ⟨tk, ⟨t0, t1, t2, t3⟩, tps, tlo, thi⟩ B d)) := hb5.alloc hb5.size _
    have bx5 := bx4.alloc (nO ⟨tk, ⟨t0, t1, t2, t3⟩, tps, tlo, thi⟩ B d)
    have hcn := parse_cnt s
    rw [hp.out] at hcn
    have hsame := tr_refSame ⟨tk, ⟨t0, t1, t2, t3⟩, tps, tlo, thi⟩ ⟨tk, ⟨t0, t1, t2, t3⟩, tps, tlo, thi⟩ A B c d (w4.alloc (nO ⟨tk, ⟨t0, t1, t2, t3⟩, tps, tlo, thi⟩ B d)) hcn bx5.tr by4.tr
    rw [same_refl] at hsame
    obtain ⟨c0, c1, c2, c3, c4, c5, c6, c7⟩ := n_cells bx5.blk
    obtain ⟨d0, d1, d2, d3, d4, d5, d6, d7⟩ := n_cells by4.blk
    have hgg : ¬ w2.heap.size = w4.heap.size := by have := hb4.size; omega
    have hgg' : ¬ w4.heap.size = w2.heap.size := fun e => hgg e.symm
    have HX5 := Lib.hid bx5
    have HB6 := Lib.hid hb6
    have HCN := Lib.hid hcn
    unfold ndV at hsame
    unfold nO at hsame c0 c1 c2 c3 c4 c5 c6 c7 d0 d1 d2 d3 d4 d5 d6 d7 HX5 HB6
    dsimp only at hsame c0 c1 c2 c3 c4 c5 c6 c7 d0 d1 d2 d3 d4 d5 d6 d7 HX5 HB6
    clear hq bx4 by4 hb5 hb6 bx5 hcn hb4 hT2 HBX HB3
    by_cases he : e = 0
    · subst he
      have hfo := parse_formed (s := s) (by rw [hp.out])
      obtain ⟨_, _, _, _, hwd, _⟩ := parse_ok (s := s) (by rw [hp.out])
      rw [hp.out] at hfo hwd
      dsimp only at hfo hwd
      obtain ⟨X, hX⟩ : ∃ X : T, X = ⟨tk, ⟨t0, t1, t2, t3⟩, tps, tlo, thi⟩ := ⟨_, rfl⟩
      have hw20 : (depthT ⟨tk, ⟨t0, t1, t2, t3⟩, tps, tlo, thi⟩ : Int) ≤ 20 := by
        have : ¬ depthT ⟨tk, ⟨t0, t1, t2, t3⟩, tps, tlo, thi⟩ > 20 := fun h => hwd (.inl h)
        omega
      have hw40 : (placesT ⟨tk, ⟨t0, t1, t2, t3⟩, tps, tlo, thi⟩ : Int) ≤ 40 := by
        have : ¬ placesT ⟨tk, ⟨t0, t1, t2, t3⟩, tps, tlo, thi⟩ > 40 := fun h => hwd (.inr h)
        omega
      have q1 := fun W (h : Tr W ⟨tk, ⟨t0, t1, t2, t3⟩, tps, tlo, thi⟩ A c) => tr_formed ⟨tk, ⟨t0, t1, t2, t3⟩, tps, tlo, thi⟩ A c W h
      have q2 := fun W (h : Tr W ⟨tk, ⟨t0, t1, t2, t3⟩, tps, tlo, thi⟩ A c) => sy_depth ⟨tk, ⟨t0, t1, t2, t3⟩, tps, tlo, thi⟩ A c W HCN.out h.row h.cap
      have q3 := fun W (h : Tr W ⟨tk, ⟨t0, t1, t2, t3⟩, tps, tlo, thi⟩ A c) => sy_places ⟨tk, ⟨t0, t1, t2, t3⟩, tps, tlo, thi⟩ A c W HCN.out h.row h.cap
      rw [hfo] at q1
      unfold ndV at q1 q2 q3
      dsimp only at q1 q2 q3
      obtain ⟨dd, hdd⟩ : ∃ dd : Int, dd = depthT ⟨tk, ⟨t0, t1, t2, t3⟩, tps, tlo, thi⟩ := ⟨_, rfl⟩
      obtain ⟨pp, hpp⟩ : ∃ pp : Int, pp = placesT ⟨tk, ⟨t0, t1, t2, t3⟩, tps, tlo, thi⟩ := ⟨_, rfl⟩
      rw [← hdd] at hw20 q2
      rw [← hpp] at hw40 q3
      have Q1 := Lib.hid q1
      have Q2 := Lib.hid q2
      have Q3 := Lib.hid q3
      clear hfo hwd hX hdd hpp q1 q2 q3
      go_wp2_with fail
      refine hsame.mono ?_
      rintro x w6 ⟨rfl, hb6⟩
      have HX6 := Lib.hid (HX5.out.later hb6)
      have hB6 := ext_trans HB6.out hb6
      have HB7 := Lib.hid hB6
      clear c0 c1 c2 c3 c4 c5 c6 c7 d0 d1 d2 d3 d4 d5 d6 d7 hsame hb6 hB6
      obtain ⟨c0, c1, c2, c3, c4, c5, c6, c7⟩ := n_cells HX6.out.blk
      dsimp only at c0 c1 c2 c3 c4 c5 c6 c7
      go_wp2_with fail
      refine (Q1.out w6 HX6.out.tr).mono ?_
      rintro x w7 ⟨rfl, hb7⟩
      have HX7 := Lib.hid (HX6.out.later hb7)
      have hB7 := ext_trans HB7.out hb7
      have HB8 := Lib.hid hB7
      clear c0 c1 c2 c3 c4 c5 c6 c7 hb7 hB7
      obtain ⟨c0, c1, c2, c3, c4, c5, c6, c7⟩ := n_cells HX7.out.blk
      dsimp only at c0 c1 c2 c3 c4 c5 c6 c7
      go_wp2_with fail
      refine (Q2.out w7 HX7.out.tr).mono ?_
      rintro x w8 ⟨rfl, hb8⟩
      have HX8 := Lib.hid (HX7.out.later hb8)
      have hB8 := ext_trans HB8.out hb8
      have HB9 := Lib.hid hB8
      clear c0 c1 c2 c3 c4 c5 c6 c7 hb8 hB8
      obtain ⟨c0, c1, c2, c3, c4, c5, c6, c7⟩ := n_cells HX8.out.blk
      dsimp only at c0 c1 c2 c3 c4 c5 c6 c7
      go_wp2_with fail
      refine (Q3.out w8 HX8.out.tr).mono ?_
      rintro x w9 ⟨rfl, hb9⟩
      have hB9 := ext_trans HB9.out hb9
      clear c0 c1 c2 c3 c4 c5 c6 c7
      go_wp2
      go_ret
      exact ⟨rfl, hB9⟩
    · have hz1 : (e != 0) = true := by simp [he]
      have hz2 : (e == 0) = false := by simp [he]
      have HE := Lib.hid he
      clear he
      go_wp2_with fail
      refine hsame.mono ?_
      rintro x w6 ⟨rfl, hb6⟩
      have hB6 := ext_trans HB6.out hb6
      clear c0 c1 c2 c3 c4 c5 c6 c7 d0 d1 d2 d3 d4 d5 d6 d7 hsame
      go_wp2
      go_ret
      exact ⟨rfl, hB6⟩
end Go.Proofs.Ytmkcbbamfkafmaa.P
