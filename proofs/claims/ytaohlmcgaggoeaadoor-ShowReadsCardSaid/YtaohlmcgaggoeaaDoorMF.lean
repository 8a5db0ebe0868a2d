/- The machine's walks: repeat. -/
import Derived.Test.YtaohlmcgaggoeaaDoorME
import Derived.Deep.DeepCutAuto
import Derived.Deep.LoopGhost
import Derived.Laws.ResultCell
import Derived.Test.YtaohlmcgaggoeaaDoorPx12
import Derived.Test.YtaohlmcgaggoeaaDoorPx13
import Derived.Test.YtaohlmcgaggoeaaDoorPx14
import Derived.Test.YtaohlmcgaggoeaaDoorPx15
import Derived.Test.YtaohlmcgaggoeaaDoorPx16
import Derived.Test.YtaohlmcgaggoeaaDoorPx2
import Derived.Test.YtaohlmcgaggoeaaDoorPx3
import Derived.Test.YtaohlmcgaggoeaaDoorPx6
import Derived.Test.YtaohlmcgaggoeaaDoorMA
namespace Go.Proofs.YtaohlmcgaggoeaaDoor.P
open Go.RowKit Go.Proofs.YtaohlmcgaggoeaaDoor Go.Proofs.YtaohlmcgaggoeaaDoorW.PrintWords Go.Proofs.YtaohlmcgaggoeaaDoorW.PrintLast Go.Proofs.YtaohlmcgaggoeaaDoorW.PrintMore
set_option linter.unusedVariables false
set_option linter.unusedSimpArgs false
/-- A node alone in a new block, as another one's parts. -/
theorem lit_F (w : World) (own : Own) (p : Pn) (hp : Nd w own p) (hnew : ∀ k, w.heap.size ≤ k → own k = none) (o : Obj) (ho : o = .cells p.cells.toArray 27) : Kd.F k27 (w.alloc o) (okO own) (some ⟨w.heap.size, 0, none⟩) [p.t].length [p.t] := by
  subst ho
  have hrow : (w.alloc (.cells p.cells.toArray 27)).ownsRow w.heap.size 27 8 (.slice (some ⟨w.heap.size, 0, none⟩) 1 1) 1 (ncs [p]) := by
    rw [ncs_one]
    have := World.ownsRow_lit (base := w.heap.size) (e := 27) (size := 8) w p.cells.toArray 1 (Nat.le_refl _) (by unfold maxLen; omega) rfl
    simpa using this
  have hk : Keeps w (w.alloc (.cells p.cells.toArray 27)) own (fun k => if k = w.heap.size then some 7 else (own k).map fun _ => 0) := ⟨by simp, fun k hk _ => Below.heap_alloc w _ k hk, fun k hk h => by show (if k = _ then _ else _) = _; rw [if_neg (by omega), h]; rfl⟩
  have hr : Rw (w.alloc (.cells p.cells.toArray 27)) w.heap.size (fun k => if k = w.heap.size then some 7 else (own k).map fun _ => 0) 7 (.slice (some ⟨w.heap.size, 0, none⟩) 1 1) [p.t] [p] :=
    ⟨rfl, fun q hq => by rw [List.mem_singleton.1 hq]; exact hp.keep hk, hrow, fun k hk => by
      have : w.heap.size = k := by injection hk
      subst this
      exact if_pos rfl⟩
  obtain ⟨A, c, e, hc, hF⟩ := hr.freeze (own1 := own) (fun i hi h => by
    by_cases hi2 : i = w.heap.size
    · rw [if_pos hi2] at h; cases h
    · rw [if_neg hi2] at h
      cases ho : own i with
      | none => rfl
      | some t => rw [ho] at h; cases h) (fun i hi h => by
    by_cases hi2 : i = w.heap.size
    · subst hi2; exact hnew _ (Nat.le_refl _)
    · rw [if_neg hi2] at h
      cases ho : own i with
      | none => rfl
      | some t => rw [ho] at h; simp at h)
  injection e with e1 _ _
  subst e1
  exact hF
/-- Behind repeat's store. -/
theorem rep_end {w : World} {base R : Nat} {lv : Value} {own : Own} {pre : List LvE} {e : LvE} {init : List Pn} {p : Pn} {g c : Nat} (lo hi : Int) (hL : LvI w base R lv own (pre ++ [e])) (hRl : R < w.heap.size) (hp1 : e.p1 = init ++ [p]) (hv1 : e.v1 = .slice (some ⟨g, 0, none⟩) (init.length + 1) c) (hbase : base ≤ w.heap.size)
    (o : Obj) (ho : o = .cells p.cells.toArray 27) (W : World) (hW : W = set8 (w.alloc o) g (init.length * 8) (.int .i64 4) (.int .u64 0) (.int .u64 0) (.int .u64 0) (.int .u64 0) (.slice (some ⟨w.heap.size, 0, none⟩) 1 1) (.int .i64 lo) (.int .i64 hi)) :
    (∃ e', e'.lv = e.lv.rep lo hi ∧ LvI W base R lv own (pre ++ [e'])) ∧ W.heap[R]? = w.heap[R]? ∧ Below base w W := by
  obtain ⟨rw0, rw1⟩ := hL.top
  have hgt : own g = some (3 + 2 * pre.length) := rw1.tag g (by rw [hv1]; rfl)
  have hgl := rw1.lt (k := g) (by rw [hv1]; rfl)
  have hRg : R ≠ g := fun e2 => by rw [← e2, hL.reg] at hgt; injection hgt with h; omega
  have far : ∀ k, k < w.heap.size → k ≠ g → W.heap[k]? = w.heap[k]? := fun k hk hkg => by
    rw [hW]
    exact (set8_far _ _ _ _ _ _ _ _ _ _ _ k hkg).trans (Below.heap_alloc w o k hk)
  have sz : W.heap.size = w.heap.size + 1 := by rw [hW, set8_size]; simp
  have nog : ∀ k, own k = none → k ≠ g := fun k hk e2 => by rw [e2, hgt] at hk; cases hk
  have kp : Keeps w W own own := ⟨by omega, fun k hk h => far k hk (nog k h), fun _ _ h => h⟩
  have hpn : Nd w own p := rw1.nd p (by rw [hp1]; simp)
  have hF := lit_F w own p hpn hL.new o ho
  have hq : Nd W own ⟨timN p.t lo hi, some ⟨w.heap.size, 0, none⟩, 1⟩ := ⟨Kd.F_step hF fun k hk hl => by
    rw [hW]
    exact set8_far _ _ _ _ _ _ _ _ _ _ _ k (nog k hk), Nat.le_refl _⟩
  have hrow : (w.alloc o).ownsRow base 27 8 (.slice (some ⟨g, 0, none⟩) (init.length + 1) c) (init.length + 1) (ncs init ++ p.cells) := by
    have h1 := rw1.row
    rw [hp1, hv1, ncs_append, ncs_one, List.length_append] at h1
    exact own_move h1 fun k hk => Below.heap_alloc w o k (by have : g = k := by injection hk
                                                             omega)
  have hrow2 : W.ownsRow base 27 8 (.slice (some ⟨g, 0, none⟩) (init.length + 1) c) (init.length + 1) (ncs init ++ Pn.cells ⟨timN p.t lo hi, some ⟨w.heap.size, 0, none⟩, 1⟩) := by
    rw [hW]
    exact own8 hrow (ncs_length _) _ _ _ _ _ _ _ _
  have hts : e.lv.row = init.map Pn.t ++ [p.t] := by rw [← rw1.ts, hp1, List.map_append]; rfl
  refine ⟨⟨{ e with lv := e.lv.rep lo hi, p1 := init ++ [⟨timN p.t lo hi, some ⟨w.heap.size, 0, none⟩, 1⟩] }, rfl, ?_⟩, far R hRl hRg, ?_⟩
  · refine hL.upd2 kp (fun i hi t ht h1 h2 h3 => ?_) hL.reg (fun k hk => hL.new k (by omega)) hL.tag ?_ ?_ ?_
    · exact ⟨far i hi fun e2 => h3 (by rw [e2, hgt] at ht; injection ht with ht; exact ht.symm), ht⟩
    · exact rw0.keep kp (fun i hi ho => far i hi fun e2 => by rw [e2, hgt] at ho; injection ho with ho; omega) (fun _ _ h => h)
    · refine ⟨?_, fun x hx => ?_, ?_, fun k hk => rw1.tag k hk⟩
      · rw [List.map_append]
        show _ = e.lv.row.dropLast ++ [timN (e.lv.row.getLastD zN) lo hi]
        rw [hts, List.dropLast_concat, getLastD_snoc]
        rfl
      · rcases List.mem_append.1 hx with h | h
        · exact (rw1.nd x (by rw [hp1]; exact List.mem_append_left _ h)).keep kp
        · rw [List.mem_singleton.1 h]; exact hq
      · rw [ncs_append, ncs_one, List.length_append]
        show W.ownsRow base _ 8 e.v1 _ _
        rw [hv1]
        exact hrow2
    · have hr9 := hL.row
      have h3 : (pre ++ [e]).length = pre.length + 1 := by simp
      rw [h3] at hr9
      refine row_cast (own_move hr9 fun k hk => ?_) (by rw [lcs_append, lcs_append, lcs_one, lcs_one])
      have hkt := hL.tag k hk
      exact far k (hL.row.lt k hk).2 fun e2 => by rw [e2, hgt] at hkt; injection hkt with h; omega
  · rw [hW]
    exact set8_below ((Below.refl _ _).alloc hbase _) hgl.1 _ _ _ _ _ _ _ _ _
section
variable (R : Nat) (s : ByteArray) (lv : Value) (st : Sc) (w : World) (base : Nat) (own : Own) (pre : List LvE) (e : LvE)
set_option maxHeartbeats 2000000 in
theorem rep_any (at_ lo hi : Int) (hR : RdB w R s lv st) (hL : LvI w base R lv own (pre ++ [e])) (hbase : base ≤ w.heap.size) (hlen : e.lv.row.length ≤ 1000) (hne : e.lv.row ≠ []) :
    Calls Tryd.prog 40 #[.pointer (some ⟨R, 0, none⟩), .int .i64 at_, .int .i64 lo, .int .i64 hi] w fun x w' => x = .returned (.tuple #[]) ∧ ∃ own' e', e'.lv = e.lv.rep lo hi ∧ RdB w' R s lv st ∧ LvI w' base R lv own' (pre ++ [e']) ∧ Below base w w' := by
  obtain ⟨L, cap, hlv, hL1, hL2, hL3, hL4, hL5, l0, l1, fl0, fl1⟩ := hL.cells
  obtain ⟨rw0, rw1⟩ := hL.top
  obtain ⟨init, p, hp1⟩ : ∃ init p, e.p1 = init ++ [p] := by
    rcases List.eq_nil_or_concat e.p1 with h | ⟨init, p, h⟩
    · exfalso
      apply hne
      rw [← rw1.ts, h]
      rfl
    · exact ⟨init, p, by simpa using h⟩
  have hlen2 := rw1.len
  obtain ⟨g, c, hv1⟩ : ∃ g c, e.v1 = .slice (some ⟨g, 0, none⟩) (init.length + 1) c := by
    have h2 := rw1.row
    rw [hp1, List.length_append] at h2
    obtain ⟨g, c, h3⟩ := ownsRow_succ h2
    exact ⟨g, c, h3⟩
  have hgl := rw1.lt (k := g) (by rw [hv1]; rfl)
  have hrow : w.ownsRow base 27 8 (.slice (some ⟨g, 0, none⟩) (init.length + 1) c) (init.length + 1) (ncs init ++ p.cells) := by
    have h1 := rw1.row
    rw [hp1, hv1, ncs_append, ncs_one, List.length_append] at h1
    exact h1
  obtain ⟨⟨z0, z1, z2, z3, z4, z5, z6, z7⟩, zf⟩ := own8_cells hrow (ncs_length init)
  have hfin := fun W0 (h0 : LvI W0 base R lv own (pre ++ [e])) (hR0 : RdB W0 R s lv st) (hb0 : base ≤ W0.heap.size) => rep_end lo hi h0 hR0.lt hp1 hv1 hb0 _ rfl _ rfl
  rw [hp1, List.length_append] at hlen2
  have hc0 : init.length + 1 ≤ c := by
    rcases hrow.2 with ⟨h, _⟩ | ⟨g', cap', cur, h, _, _, h2, _⟩
    · cases h
    · injection h with _ _ h; omega
  obtain ⟨m, hm⟩ : ∃ m, m = init.length := ⟨_, rfl⟩
  obtain ⟨k, hk⟩ : ∃ k, k = m + 1 := ⟨_, rfl⟩
  obtain ⟨n, hn⟩ : ∃ n, n = pre.length := ⟨_, rfl⟩
  rw [← hm] at z0 z1 z2 z3 z4 z5 z6 z7 hv1 hfin
  rw [← hk] at hv1
  rw [hv1] at l1
  rw [← hn] at l0 l1 fl0 fl1 hL4 hlv
  have hw1 : IntKind.i64.wrap ((k : Int) - 1) = (m : Int) := by rw [IntKind.wrap_i64]; simp only [List.length_singleton] at hlen2; omega
  have hk0 : ¬ (k : Int) = 0 := by omega
  have hmk : (m : Int) < (k : Int) := by omega
  have hc2 := hR.cells.2.2.1
  rw [hlv] at hc2
  have HR := Lib.hid hR
  have HL := Lib.hid hL
  have HF := Lib.hid hfin
  obtain ⟨⟨tk, ⟨t0, t1, t2, t3⟩, tps, tlo, thi⟩, tA, tc⟩ := p
  unfold Pn.cells at HF
  dsimp only at z0 z1 z2 z3 z4 z5 z6 z7 HF
  have HP := Lib.hid hp1
  clear hfin hR hL rw0 rw1 hp1 hrow hlv hm hk hn hlen hlen2 hne hv1
  go_enter Tryd.func40, Tryd.ntmps40
  go_wp2_with fail
  refine (top_any R L n cap _ hc2 hL4 hL5).mono ?_
  rintro x w1 ⟨rfl, m1, rfl⟩
  have hfz : ∀ (o : Obj) (j : Nat), ((w.drewN m1).alloc o).frozen? ⟨g, j, none⟩ = false := fun o j => (World.frozen?_of_block (a := ⟨g, j, none⟩) (Below.heap_alloc (w.drewN m1) o g hgl.2)).trans (zf j)
  have hb0 : Below base w (w.drewN m1) := ⟨rfl, rfl, rfl, Nat.le_refl _, fun _ _ => rfl⟩
  have HB0 := Lib.hid hb0
  have HL1 := Lib.hid (HL.out.fr (fr_drewN' w.heap.size R w m1))
  have HBS : Hid (base ≤ (w.drewN m1).heap.size) := hbase
  have HRD := Lib.hid (HR.out.drewN m1)
  have hcl : (w.drewN m1).cell? ⟨L, n * 2 + 1, none⟩ = some (.slice (some ⟨g, 0, none⟩) k c) := cellA l1 rfl
  have y0 := cellA (W := w.drewN m1) z0 rfl
  have y1 := cellA (W := w.drewN m1) z1 rfl
  have y2 := cellA (W := w.drewN m1) z2 rfl
  have y3 := cellA (W := w.drewN m1) z3 rfl
  have y4 := cellA (W := w.drewN m1) z4 rfl
  have y5 := cellA (W := w.drewN m1) z5 rfl
  have y6 := cellA (W := w.drewN m1) z6 rfl
  have y7 := cellA (W := w.drewN m1) z7 rfl
  have x0 : ∀ o, ((w.drewN m1).alloc o).cell? _ = _ := fun o => cellB (o := o) y0 rfl
  have x1 : ∀ o, ((w.drewN m1).alloc o).cell? _ = _ := fun o => cellB (o := o) y1 rfl
  have x2 : ∀ o, ((w.drewN m1).alloc o).cell? _ = _ := fun o => cellB (o := o) y2 rfl
  have x3 : ∀ o, ((w.drewN m1).alloc o).cell? _ = _ := fun o => cellB (o := o) y3 rfl
  have x4 : ∀ o, ((w.drewN m1).alloc o).cell? _ = _ := fun o => cellB (o := o) y4 rfl
  have x5 : ∀ o, ((w.drewN m1).alloc o).cell? _ = _ := fun o => cellB (o := o) y5 rfl
  have x6 : ∀ o, ((w.drewN m1).alloc o).cell? _ = _ := fun o => cellB (o := o) y6 rfl
  have x7 : ∀ o, ((w.drewN m1).alloc o).cell? _ = _ := fun o => cellB (o := o) y7 rfl
  have hf0 : ∀ o, ((w.drewN m1).alloc o).frozen? ⟨g, m * 8, none⟩ = false := fun o => hfz o _
  have hf1 : ∀ o, ((w.drewN m1).alloc o).frozen? ⟨g, m * 8 + 1, none⟩ = false := fun o => hfz o _
  have hf2 : ∀ o, ((w.drewN m1).alloc o).frozen? ⟨g, m * 8 + 2, none⟩ = false := fun o => hfz o _
  have hf3 : ∀ o, ((w.drewN m1).alloc o).frozen? ⟨g, m * 8 + 3, none⟩ = false := fun o => hfz o _
  have hf4 : ∀ o, ((w.drewN m1).alloc o).frozen? ⟨g, m * 8 + 4, none⟩ = false := fun o => hfz o _
  have hf5 : ∀ o, ((w.drewN m1).alloc o).frozen? ⟨g, m * 8 + 5, none⟩ = false := fun o => hfz o _
  have hf6 : ∀ o, ((w.drewN m1).alloc o).frozen? ⟨g, m * 8 + 6, none⟩ = false := fun o => hfz o _
  have hf7 : ∀ o, ((w.drewN m1).alloc o).frozen? ⟨g, m * 8 + 7, none⟩ = false := fun o => hfz o _
  clear hfz
  clear hb0 z0 z1 z2 z3 z4 z5 z6 z7 zf l0 l1 fl0 fl1 hc2 hL4 hL5
  generalize w.drewN m1 = w1 at *
  clear HP HL HR
  go_wp2
  go_end0
  have hX := HF.out w1 HL1.out HRD.out HBS.out
  unfold set8 at hX
  obtain ⟨⟨e', h1, h2⟩, h3, h4⟩ := hX
  exact ⟨rfl, own, e', h1, HRD.out.keep h3, h2, HB0.out.trans h4⟩
theorem rep_none (at_ lo hi : Int) (hR : RdB w R s lv st) (hL : LvI w base R lv own (pre ++ [e])) (hbR : base ≤ R) (hne : e.lv.row = []) :
    Calls Tryd.prog 40 #[.pointer (some ⟨R, 0, none⟩), .int .i64 at_, .int .i64 lo, .int .i64 hi] w fun x w' => x = .returned (.tuple #[]) ∧ RdB w' R s lv (st.fail at_ 2) ∧ Fr w.heap.size R w w' := by
  obtain ⟨L, cap, hlv, hL1, hL2, hL3, hL4, hL5, l0, l1, fl0, fl1⟩ := hL.cells
  obtain ⟨rw0, rw1⟩ := hL.top
  obtain ⟨A, c, hv1, hc, _, _⟩ := rw1.sl
  rw [hne] at hv1 hc
  rw [hv1] at l1
  rw [show ([] : List T).length = 0 from rfl] at l1
  obtain ⟨n, hn⟩ : ∃ n, n = pre.length := ⟨_, rfl⟩
  rw [← hn] at l0 l1 fl0 fl1 hL4 hlv
  have hc2 := hR.cells.2.2.1
  rw [hlv] at hc2
  have hF := fun m => fail_any R s lv st (w.drewN m) at_ 2 (hR.drewN m)
  clear hL rw0 rw1 hv1 hn hlv
  go_enter Tryd.func40, Tryd.ntmps40
  go_wp2_with fail
  refine (top_any R L n cap _ hc2 hL4 hL5).mono ?_
  rintro x w1 ⟨rfl, m1, rfl⟩
  go_wp2_with fail
  refine (hF m1).mono ?_
  rintro x w2 ⟨rfl, h2, k2⟩
  clear hF
  go_wp2
  refine bodyPost_ret (results_none rfl _ _ _) rfl ?_
  exact ⟨rfl, h2, (fr_drewN' _ _ _ _).trans k2⟩
end
end Go.Proofs.YtaohlmcgaggoeaaDoor.P
/- The machine's walks: bracket, brace. -/
namespace Go.Proofs.YtaohlmcgaggoeaaDoor.P
open Go.RowKit Go.Proofs.YtaohlmcgaggoeaaDoor Go.Proofs.YtaohlmcgaggoeaaDoorW.PrintWords Go.Proofs.YtaohlmcgaggoeaaDoorW.PrintLast Go.Proofs.YtaohlmcgaggoeaaDoorW.PrintMore
set_option linter.unusedVariables false
set_option linter.unusedSimpArgs false
/-- A level is left. -/
def ownP (own : Own) (n : Nat) : Own := fun k => if own k = some (2 + 2 * n) ∨ own k = some (3 + 2 * n) then none else own k
theorem LvI.pop {w : World} {base R L cap : Nat} {lv : Value} {own : Own} {pre : List LvE} {e : LvE} (h : LvI w base R lv own (pre ++ [e])) (hlv : lv = .slice (some ⟨L, 0, none⟩) (pre.length + 1) cap) :
    LvI w base R (.slice (some ⟨L, 0, none⟩) pre.length cap) (ownP own pre.length) pre := by
  have kp : Keeps w w own (ownP own pre.length) := ⟨Nat.le_refl _, fun _ _ _ => rfl, fun k _ ho => by unfold ownP; rw [ho]; simp⟩
  have oth : ∀ k t, own k = some t → t ≠ 2 + 2 * pre.length → t ≠ 3 + 2 * pre.length → ownP own pre.length k = some t := fun k t ht h1 h2 => by
    unfold ownP
    rw [ht, if_neg]
    rintro (h | h) <;> injection h with h <;> omega
  refine ⟨oth R 0 h.reg (by omega) (by omega), ?_, fun k hk => ?_, fun k hk => ?_, fun i hi => ?_, fun k hk => ⟨(h.low k hk).1, oth k 0 (h.low k hk).2 (by omega) (by omega)⟩⟩
  · have hr := h.row
    rw [hlv] at hr
    refine ⟨lcs_length _, ?_⟩
    rcases hr.2 with ⟨hv, _⟩ | ⟨g, cap', cur, hv, hb, hg, hn, hm, hs, ht⟩
    · cases hv
    · injection hv with h1 h2 h3
      injection h1 with h1
      injection h1 with h1 _ _
      subst h1 h3
      have hl : (pre ++ [e]).length = pre.length + 1 := by simp
      rw [hl] at hn ht
      refine .inr ⟨L, cap, cur, rfl, hb, hg, by omega, hm, hs, ?_⟩
      have h4 := congrArg (fun l => l.take (pre.length * 2)) ht
      rw [lcs_append] at h4
      simp only [List.take_take] at h4
      rw [Nat.min_eq_left (by omega), List.take_append_of_le_length (by rw [lcs_length]; exact Nat.le_refl _), List.take_of_length_le (l := lcs pre) (by rw [lcs_length]; exact Nat.le_refl _)] at h4
      exact h4
  · have : L = k := by injection hk
    subst this
    exact oth L 1 (h.tag L (by rw [hlv]; rfl)) (by omega) (by omega)
  · unfold ownP
    rw [h.new k hk]; simp
  · obtain ⟨a, b⟩ := h.el i (by simp; omega)
    simp only [List.getElem_append_left hi] at a b
    exact ⟨a.keep kp (fun _ _ _ => rfl) (fun j _ ho => oth j _ ho (by omega) (by omega)), b.keep kp (fun _ _ _ => rfl) (fun j _ ho => oth j _ ho (by omega) (by omega))⟩
section
variable (R : Nat) (s : ByteArray) (lv : Value) (st : Sc) (w : World) (base : Nat) (own : Own) (pre : List LvE) (par e : LvE)
set_option maxHeartbeats 4000000 in
theorem bracket_any (at_ : Int) (hR : RdB w R s lv st) (hL : LvI w base R lv own (pre ++ [par] ++ [e])) (hbase : base ≤ w.heap.size) (hbR : base ≤ R) (hlen0 : e.lv.rows.length ≤ 1000) (hlen1 : e.lv.row.length ≤ 1000) (hlen2 : par.lv.row.length ≤ 1000) :
    Calls Tryd.prog 39 #[.pointer (some ⟨R, 0, none⟩), .int .i64 at_] w fun x w' => x = .returned (.tuple #[]) ∧ ∃ lv' own' par', par'.lv = par.lv.put e.lv.done ∧ RdB w' R s lv' st ∧ LvI w' base R lv' own' (pre ++ [par']) ∧ Below base w w' := by
  obtain ⟨L, cap, hlv, hL1, hL2, hL3, hL4, hL5, l0, l1, fl0, fl1⟩ := hL.cells
  have hnl : (pre ++ [par]).length = pre.length + 1 := by simp
  have hc2 := hR.cells.2.2.1
  rw [hlv] at hc2
  have hCl := fun (m : Nat) => close_any R s lv st (w.drewN m) base own (pre ++ [par]) e L cap (hR.drewN m) (hL.fr (fr_drewN' w.heap.size R w m)) hbase hlen0 hlen1 hlv
  rw [hnl] at hc2 hL4 hCl
  obtain ⟨n, hn⟩ : ∃ n, n = pre.length + 1 := ⟨_, rfl⟩
  rw [← hn] at hc2 hL4 hCl
  have hn1 : ¬ ((n : Int) + 1) = 1 := by omega
  have hn2 : ((n : Int) + 1 == 1) = false := by simp; omega
  have HN := Lib.hid hn
  have HLV := Lib.hid hlv
  have HBW : ∀ m, Below base w (w.drewN m) := fun m => ⟨rfl, rfl, rfl, Nat.le_refl _, fun _ _ => rfl⟩
  clear hL hR l0 l1 fl0 fl1 hlv hn hnl
  go_enter Tryd.func39, Tryd.ntmps39
  go_wp2_with fail
  refine (top_any R L n cap _ hc2 hL4 hL5).mono ?_
  rintro x w1 ⟨rfl, m1, rfl⟩
  go_wp2_with fail
  refine (hCl m1).mono ?_
  rintro x w2 ⟨rfl, own1, e1, he1, hR2, hL2', hb2⟩
  have hb2' := (HBW m1).trans hb2
  have hsz2 : base ≤ w2.heap.size := Nat.le_trans hbase hb2'.size
  have hc3 := hR2.cells.2.2.1
  rw [HLV.out, show (pre ++ [par]).length = pre.length + 1 by simp, ← HN.out] at hc3
  clear hCl hc2 HBW
  go_wp2_with fail
  refine (top_any R L n cap _ hc3 hL4 hL5).mono ?_
  rintro x w3 ⟨rfl, m3, rfl⟩
  have hR3 := hR2.drewN m3
  have hL3' := hL2'.fr (fr_drewN' w2.heap.size R w2 m3)
  have hb3 : Below base w (w2.drewN m3) := hb2'.trans ⟨rfl, rfl, rfl, Nat.le_refl _, fun _ _ => rfl⟩
  have hsz3 : base ≤ (w2.drewN m3).heap.size := hsz2
  clear hR2 hL2' hb2 hb2' hsz2 hc3
  generalize w2.drewN m3 = w3 at *
  obtain ⟨L', cap', hlv', _, hLs, _, _, _, k0, k1, kf0, kf1⟩ := hL3'.cells
  rw [HLV.out] at hlv'
  injection hlv' with hv1 _ hv2
  injection hv1 with hv1
  injection hv1 with hv1 _ _
  subst hv1 hv2
  rw [show (pre ++ [par]).length = pre.length + 1 by simp, ← HN.out] at k0 k1 kf0 kf1
  obtain ⟨rw0, rw1⟩ := hL3'.top
  have hpop := hL3'.pop HLV.out
  obtain ⟨A0, c0, hv0, hc0, hF0⟩ := rw0.freeze (own1 := ownP own1 (pre ++ [par]).length) (fun i _ h => by unfold ownP; rw [h]; simp) (fun i _ h => by unfold ownP; rw [h, if_pos (.inl rfl)])
  rw [hv0] at k0
  have hone := one_q 3 (ownP own1 (pre ++ [par]).length) A0 c0 e1.lv.rows w3 hc0 hF0
  have hdone : oneN 3 e1.lv.rows = e.lv.done := by rw [he1]; rfl
  have HD := Lib.hid hdone
  have HPOP := Lib.hid hpop
  have HR3 := Lib.hid hR3
  clear rw0 rw1 hv0 hF0 hdone hpop hL3' hR3 he1
  generalize e1.lv.rows = rows at *
  go_wp2_with fail
  refine hone.mono ?_
  rintro x w4 ⟨q, hq, rfl, b4, hnd⟩
  have hR4 := HR3.out.below b4
  have hL4' := HPOP.out.fr (Fr.of_below b4 (Nat.le_refl _) : Fr w3.heap.size R w3 w4)
  have hq4 := hnd (ownP own1 (pre ++ [par]).length) (fun _ _ h => h) (fun k hk => HPOP.out.new k hk)
  have hb4 : Below base w w4 := hb3.trans (b4.mono hsz3)
  have hsz4 : base ≤ w4.heap.size := Nat.le_trans hbase hb4.size
  clear hone hnd b4 hb3 hsz3 k0 k1 kf0 kf1
  obtain ⟨⟨tk, ⟨t0, t1, t2, t3⟩, tps, tlo, thi⟩, tA, tc⟩ := q
  dsimp only at *
  -- the node's variable
  obtain ⟨w5, hw5⟩ : ∃ w5, w5 = w4.alloc (.cells #[.int .i64 tk, .int .u64 t0, .int .u64 t1, .int .u64 t2, .int .u64 t3, .slice tA tps.length tc, .int .i64 tlo, .int .i64 thi] 27) := ⟨_, rfl⟩
  have b5 : Below w4.heap.size w4 w5 := by rw [hw5]; exact box_belowS _ _
  have hblk : w5.heap[w4.heap.size]? = some (.cells #[.int .i64 tk, .int .u64 t0, .int .u64 t1, .int .u64 t2, .int .u64 t3, .slice tA tps.length tc, .int .i64 tlo, .int .i64 thi] 27) := by rw [hw5]; exact heap_alloc_new w4 _
  have hR5 := hR4.below b5
  have hL5' := hL4'.fr (Fr.of_below b5 (Nat.le_refl _) : Fr w4.heap.size R w4 w5)
  have hq5 := hq4.keep (⟨b5.size, fun k hk _ => b5.block k hk, fun _ _ h => h⟩ : Keeps w4 w5 (ownP own1 (pre ++ [par]).length) (ownP own1 (pre ++ [par]).length))
  have hb5 : Below base w w5 := hb4.trans (b5.mono hsz4)
  have hsz5 : base ≤ w5.heap.size := Nat.le_trans hbase hb5.size
  have hRw4 : R < w4.heap.size := hR4.lt
  have hne : ¬ w4.heap.size = R := by omega
  obtain ⟨G, hG⟩ : ∃ G, G = w4.heap.size := ⟨_, rfl⟩
  obtain ⟨c0', c1', c2', c3', c4'⟩ := hR5.cells
  obtain ⟨g0, g1, g2, g3, g4⟩ := hR5.froz
  rw [HLV.out, show (pre ++ [par]).length = pre.length + 1 by simp, ← HN.out] at c2'
  clear hR4 hL4' hq4 hb4 hsz4 b5
  go_wp2_with fail
  rw [← hw5]
  clear hw5
  have hw1 : IntKind.i64.wrap (((n : Int) + 1) - 1) = (n : Int) := by rw [show ((n : Int) + 1) - 1 = (n : Int) by omega, IntKind.wrap_i64]; omega
  have hw2 : IntKind.i64.wrap (((n + 1 : Nat) : Int) - 1) = (n : Int) := by rw [show ((n + 1 : Nat) : Int) - 1 = (n : Int) by omega, IntKind.wrap_i64]; omega
  have hnc : (n : Int) ≤ (cap : Int) := by omega
  have HR5 := Lib.hid hR5
  have HL5 := Lib.hid hL5'
  have HQ5 := Lib.hid hq5
  have HBL := Lib.hid hblk
  clear hR5 hL5' hq5 hblk
  have hset : Fr w5.heap.size R w5 (w5.setCell ⟨R, 2, none⟩ (.slice (some ⟨L, 0, none⟩) n cap)).drew := (fr_set w5 R 2 _).drew
  have hR6 : RdB (w5.setCell ⟨R, 2, none⟩ (.slice (some ⟨L, 0, none⟩) n cap)).drew R s (.slice (some ⟨L, 0, none⟩) n cap) st := (HR5.out.lev _).drew
  have hL6 := HL5.out.fr hset
  have hq6 := HQ5.out.keep (⟨hset.size, fun k hk ho => hset.block k hk (fun e2 => by rw [e2, HL5.out.reg] at ho; cases ho), fun _ _ h => h⟩ : Keeps w5 (w5.setCell ⟨R, 2, none⟩ (.slice (some ⟨L, 0, none⟩) n cap)).drew (ownP own1 (pre ++ [par]).length) (ownP own1 (pre ++ [par]).length))
  have hblk6 : (w5.setCell ⟨R, 2, none⟩ (.slice (some ⟨L, 0, none⟩) n cap)).drew.heap[w4.heap.size]? = _ := (hset.block w4.heap.size (blk_lt HBL.out) hne).trans HBL.out
  have hb6 : Below base w (w5.setCell ⟨R, 2, none⟩ (.slice (some ⟨L, 0, none⟩) n cap)).drew := (hb5.setCell (p := ⟨R, 2, none⟩) hbR _).drew
  have hnn : (pre ++ [par]).length = n := by rw [HN.out]; simp
  have hL6' : LvI (w5.setCell ⟨R, 2, none⟩ (.slice (some ⟨L, 0, none⟩) n cap)).drew base R (.slice (some ⟨L, 0, none⟩) n cap) (ownP own1 (pre ++ [par]).length) (pre ++ [par]) := by
    have e2 : (.slice (some ⟨L, 0, none⟩) n cap : Value) = .slice (some ⟨L, 0, none⟩) (pre ++ [par]).length cap := by rw [hnn]
    rw [e2] at hL6 ⊢
    exact hL6
  have hsz6 : base ≤ (w5.setCell ⟨R, 2, none⟩ (.slice (some ⟨L, 0, none⟩) n cap)).drew.heap.size := Nat.le_trans hbase hb6.size
  have hput := put_any R s _ st _ base _ pre par _ hR6 hL6' hq6 hsz6 hbR hlen2
  have HPUT := Lib.hid hput
  have HB6 := Lib.hid hb6
  have v0 := blk_cell hblk6 0
  have v1 := blk_cell hblk6 1
  have v2 := blk_cell hblk6 2
  have v3 := blk_cell hblk6 3
  have v4 := blk_cell hblk6 4
  have v5 := blk_cell hblk6 5
  have v6 := blk_cell hblk6 6
  have v7 := blk_cell hblk6 7
  have HSET := Lib.hid hset
  clear hset hR6 hL6 hL6' hq6 hblk6 hb6 hnn hsz6 hput
  go_region
  clear c0' c1' c2' c3' c4' g0 g1 g2 g3 g4
  generalize (w5.setCell ⟨R, 2, none⟩ (.slice (some ⟨L, 0, none⟩) n cap)).drew = w6 at *
  go_wp2_with fail
  unfold ndV at HPUT
  refine HPUT.out.mono ?_
  rintro x w7 ⟨rfl, own7, par', hp1, hR7, hL7, hb7⟩
  go_wp2
  go_end0
  exact ⟨rfl, _, own7, par', by rw [hp1]; congr 1; exact hq.out.trans HD.out, hR7, hL7, HB6.out.trans hb7⟩
theorem bracket_one (at_ : Int) (hR : RdB w R s lv st) (hL : LvI w base R lv own [e]) :
    Calls Tryd.prog 39 #[.pointer (some ⟨R, 0, none⟩), .int .i64 at_] w fun x w' => x = .returned (.tuple #[]) ∧ RdB w' R s lv (st.fail at_ 2) ∧ Fr w.heap.size R w w' := by
  have hL' : LvI w base R lv own ([] ++ [e]) := hL
  obtain ⟨L, cap, hlv, hL1, hL2, hL3, hL4, hL5, l0, l1, fl0, fl1⟩ := hL'.cells
  have hc2 := hR.cells.2.2.1
  rw [hlv] at hc2
  have hc3 : w.cell? ⟨R, 2, none⟩ = some (.slice (some ⟨L, 0, none⟩) 1 cap) := hc2
  have hF := fail_any R s lv st w at_ 2 hR
  clear hL hL' l0 l1 fl0 fl1 hlv hc2
  go_enter Tryd.func39, Tryd.ntmps39
  go_wp2_with fail
  refine hF.mono ?_
  rintro x w2 ⟨rfl, h2, k2⟩
  clear hF
  go_wp2
  refine bodyPost_ret (results_none rfl _ _ _) rfl ?_
  exact ⟨rfl, h2, k2⟩
end
end Go.Proofs.YtaohlmcgaggoeaaDoor.P
/- The machine's walks: brace; a level more. -/
namespace Go.Proofs.YtaohlmcgaggoeaaDoor.P
open Go.RowKit Go.Proofs.YtaohlmcgaggoeaaDoor Go.Proofs.YtaohlmcgaggoeaaDoorW.PrintWords Go.Proofs.YtaohlmcgaggoeaaDoorW.PrintLast Go.Proofs.YtaohlmcgaggoeaaDoorW.PrintMore
set_option linter.unusedVariables false
set_option linter.unusedSimpArgs false
section
variable (R : Nat) (s : ByteArray) (lv : Value) (st : Sc) (w : World) (base : Nat) (own : Own) (pre : List LvE) (e : LvE)
theorem brace_none (at_ : Int) (hR : RdB w R s lv st) (hL : LvI w base R lv own (pre ++ [e])) (hne : e.lv.row = []) :
    Calls Tryd.prog 41 #[.pointer (some ⟨R, 0, none⟩), .int .i64 at_] w fun x w' => x = .returned (.tuple #[]) ∧ RdB w' R s lv (st.fail at_ 2) ∧ Fr w.heap.size R w w' := by
  obtain ⟨L, cap, hlv, hL1, hL2, hL3, hL4, hL5, l0, l1, fl0, fl1⟩ := hL.cells
  obtain ⟨rw0, rw1⟩ := hL.top
  obtain ⟨A, c, hv1, hc, _, _⟩ := rw1.sl
  rw [hne] at hv1 hc
  rw [hv1] at l1
  rw [show ([] : List T).length = 0 from rfl] at l1
  obtain ⟨n, hn⟩ : ∃ n, n = pre.length := ⟨_, rfl⟩
  rw [← hn] at l0 l1 fl0 fl1 hL4 hlv
  have hc2 := hR.cells.2.2.1
  rw [hlv] at hc2
  have hF := fun m => fail_any R s lv st (w.drewN m) at_ 2 (hR.drewN m)
  clear hL rw0 rw1 hv1 hn hlv
  go_enter Tryd.func41, Tryd.ntmps41
  go_wp2_with fail
  refine (top_any R L n cap _ hc2 hL4 hL5).mono ?_
  rintro x w1 ⟨rfl, m1, rfl⟩
  go_wp2_with fail
  refine (hF m1).mono ?_
  rintro x w2 ⟨rfl, h2, k2⟩
  clear hF
  go_wp2
  refine bodyPost_ret (results_none rfl _ _ _) rfl ?_
  exact ⟨rfl, h2, (fr_drewN' _ _ _ _).trans k2⟩
set_option maxHeartbeats 1000000 in
theorem brace_any (at_ : Int) (hat : 1 ≤ st.at_) (hR : RdB w R s lv st) (hL : LvI w base R lv own (pre ++ [e])) (hbase : base ≤ w.heap.size) (hbR : base ≤ R) (hlen : e.lv.row.length ≤ 1000) (hne : e.lv.row ≠ []) :
    Calls Tryd.prog 41 #[.pointer (some ⟨R, 0, none⟩), .int .i64 at_] w fun x w' => x = .returned (.tuple #[]) ∧ ∃ own' e', e'.lv = e.lv.rep (timesS s st).1.1 (timesS s st).1.2 ∧ RdB w' R s lv (timesS s st).2 ∧ LvI w' base R lv own' (pre ++ [e']) ∧ Below base w w' := by
  obtain ⟨L, cap, hlv, hL1, hL2, hL3, hL4, hL5, l0, l1, fl0, fl1⟩ := hL.cells
  obtain ⟨rw0, rw1⟩ := hL.top
  obtain ⟨A, c, hv1, hc, _, _⟩ := rw1.sl
  rw [hv1] at l1
  have hk0 : 0 < e.lv.row.length := List.length_pos_iff.2 hne
  obtain ⟨k, hk⟩ : ∃ k, k = e.lv.row.length := ⟨_, rfl⟩
  rw [← hk] at l1 hk0
  have hkz : ¬ (k : Int) = 0 := by omega
  obtain ⟨n, hn⟩ : ∃ n, n = pre.length := ⟨_, rfl⟩
  rw [← hn] at l0 l1 fl0 fl1 hL4 hlv
  have hc2 := hR.cells.2.2.1
  rw [hlv] at hc2
  have hT := fun m => times_any R s lv st (w.drewN m) hat (hR.drewN m)
  have hTL := fun (m : Nat) (w2 : World) (h : Fr (w.drewN m).heap.size R (w.drewN m) w2) => (hL.fr (fr_drewN' w.heap.size R w m)).fr h
  have hRep := fun (w2 : World) (lo hi : Int) (st2 : Sc) (h1 : RdB w2 R s lv st2) (h2 : LvI w2 base R lv own (pre ++ [e])) (h3 : base ≤ w2.heap.size) => rep_any R s lv st2 w2 base own pre e at_ lo hi h1 h2 h3 hlen hne
  have hB2 := fun (m : Nat) (w2 : World) (h : Fr (w.drewN m).heap.size R (w.drewN m) w2) => h.below (B' := base) hbase hbR
  obtain ⟨d, hd⟩ : ∃ d, d = timesS s st := ⟨_, rfl⟩
  rw [← hd] at hT ⊢
  obtain ⟨⟨lo, hi⟩, st2⟩ := d
  dsimp only at hT ⊢
  have HTL := Lib.hid hTL
  have HRP := Lib.hid hRep
  have HB2 := Lib.hid hB2
  clear hL rw0 rw1 hv1 hn hlv hk hd hlen hne hTL hRep hB2 hR
  go_enter Tryd.func41, Tryd.ntmps41
  go_wp2_with fail
  refine (top_any R L n cap _ hc2 hL4 hL5).mono ?_
  rintro x w1 ⟨rfl, m1, rfl⟩
  go_wp2_with fail
  refine (hT m1).mono ?_
  rintro x w2 ⟨rfl, h2, k2⟩
  have hL2' := HTL.out m1 w2 k2
  have hb2 := HB2.out m1 w2 k2
  have hbs : base ≤ w2.heap.size := Nat.le_trans hbase hb2.size
  have hX := HRP.out w2 lo hi st2 h2 hL2' hbs
  have hb0 : Below base w w2 := ⟨hb2.os, hb2.tape, hb2.output, hb2.size, hb2.block⟩
  clear hT k2 hb2 hL2' h2
  go_wp2_with fail
  refine hX.mono ?_
  rintro x w3 ⟨rfl, own', e', he', h3, hL3', hb3⟩
  clear hX
  go_wp2
  go_end0
  exact ⟨rfl, own', e', he', h3, hL3', hb0.trans hb3⟩
end
/-- The level's zero. -/
theorem infoL : (Tryd.prog.info? 53).map (fun i => (i.zero, i.size, i.bytes)) = some (some (.agg #[.slice none 0 0, .slice none 0 0]), 2, 48) := by kernel_rfl
/-- A level more. -/
theorem LvI.push {w W w9 : World} {base R g cap : Nat} {lv : Value} {own : Own} {qs : List LvE} (h : LvI w base R lv own qs) (hRl : R < w.heap.size) (hW : Below w.heap.size w W) (hgr : W.grownBy w9 lv.ownBlock) (hat : lv.ownBlock = some g ∨ W.heap.size ≤ g)
    (hrow : w9.ownsRow base 53 2 (.slice (some ⟨g, 0, none⟩) (qs.length + 1) cap) (qs.length + 1) (lcs qs ++ [.slice none 0 0, .slice none 0 0])) :
    (∃ own', LvI w9 base R (.slice (some ⟨g, 0, none⟩) (qs.length + 1) cap) own' (qs ++ [⟨.slice none 0 0, .slice none 0 0, ⟨[], []⟩, [], []⟩])) ∧ w9.heap[R]? = w.heap[R]? := by
  have hsz := Nat.le_trans hW.size hgr.size
  have hg9 := (hrow.lt g rfl).2
  have same : ∀ k, k < w.heap.size → own k ≠ some 1 → w9.heap[k]? = w.heap[k]? := fun k hk ho => (hgr.block k (Nat.lt_of_lt_of_le hk hW.size) (fun e => ho (h.tag k e.symm))).trans (hW.block k hk)
  have gne : ∀ k, k < w.heap.size → own k ≠ some 1 → k ≠ g := fun k hk ho e => by
    subst e
    rcases hat with h1 | h1
    · exact ho (h.tag k h1)
    · have := hW.size; omega
  have ne1 : ∀ k t, own k = some t → t ≠ 1 → own k ≠ some 1 := fun k t ht h1 h2 => by rw [ht] at h2; injection h2 with h2; exact h1 h2
  have kp : Keeps w w9 own (fun k => if k = g then some 1 else own k) := ⟨hsz, fun k hk ho => same k hk (by rw [ho]; simp), fun k hk ho => by show (if k = g then _ else _) = _; rw [if_neg (gne k hk (by rw [ho]; simp))]; exact ho⟩
  have tg : ∀ k t, k < w.heap.size → own k = some t → t ≠ 1 → (fun k => if k = g then some 1 else own k) k = some t := fun k t hk ht h1 => by show (if k = g then _ else _) = _; rw [if_neg (gne k hk (ne1 k t ht h1))]; exact ht
  refine ⟨⟨fun k => if k = g then some 1 else own k, tg R 0 hRl h.reg (by decide), ?_, fun k hk => ?_, fun k hk => ?_, fun i hi => ?_, fun k hk => ⟨Nat.lt_of_lt_of_le (h.low k hk).1 hsz, tg k 0 (h.low k hk).1 (h.low k hk).2 (by decide)⟩⟩, same R hRl (ne1 R 0 h.reg (by decide))⟩
  · rw [lcs_append, lcs_one, List.length_append]; exact hrow
  · have : g = k := by injection hk
    subst this
    exact if_pos rfl
  · show (if k = g then _ else _) = _
    rw [if_neg (by omega)]
    exact h.new k (by omega)
  · by_cases hip : i < qs.length
    · obtain ⟨a, b⟩ := h.el i hip
      simp only [List.getElem_append_left hip]
      exact ⟨a.keep kp (fun j hj ho => same j hj (ne1 j _ ho (by omega))) (fun j hj ho => tg j _ hj ho (by omega)), b.keep kp (fun j hj ho => same j hj (ne1 j _ ho (by omega))) (fun j hj ho => tg j _ hj ho (by omega))⟩
    · have : i = qs.length := by simp at hi; omega
      subst this
      simp only [List.getElem_append_right (Nat.le_refl _), Nat.sub_self, List.getElem_cons_zero]
      exact ⟨Rw.nil _ _ _ _, Rw.nil _ _ _ _⟩
end Go.Proofs.YtaohlmcgaggoeaaDoor.P
/- The machine's walks: step. Written by wip/gen_step.py. -/
namespace Go.Proofs.YtaohlmcgaggoeaaDoor.P
open Go.RowKit Go.Proofs.YtaohlmcgaggoeaaDoor Go.Proofs.YtaohlmcgaggoeaaDoorW.PrintWords Go.Proofs.YtaohlmcgaggoeaaDoorW.PrintLast Go.Proofs.YtaohlmcgaggoeaaDoorW.PrintMore
set_option linter.unusedVariables false
set_option linter.unusedSimpArgs false
attribute [local go_sem ↓] idxG appS
/-- The machine in memory. -/
structure MI (w0 w : World) (base R : Nat) (s : ByteArray) (m : Mc) : Prop where
  ex : ∃ lv own pre e, RdB w R s lv m.sc ∧ LvI w base R lv own (pre ++ [e]) ∧ e.lv = m.top ∧ pre.map LvE.lv = m.rest.reverse
  bel : Below base w0 w
  bR : base ≤ R
  bs : base ≤ w.heap.size
/-- How long its rows are. -/
def Bd (m : Mc) : Prop := ∀ v ∈ m.top :: m.rest, v.rows.length ≤ m.sc.at_ ∧ v.row.length ≤ m.sc.at_
theorem memB_one (c : Int) : memB [c] = fun q : Nat => decide ((q : Int) = c) := by
  funext q
  unfold memB
  exact decide_eq_decide.2 List.mem_singleton
theorem of_one (c : Int) (h0 : 0 ≤ c) (h1 : c < 256) (w : World) : Calls Tryd.prog 45 #[.slice (some ⟨w.heap.size, 0, none⟩) 1 1] (w.alloc (.cells #[.int .u8 c] 5)) fun e w' => e = .returned (cV fun q => decide ((q : Int) = c)) ∧ Below w.heap.size w w' := by
  have h := of_v [c] (some ⟨w.heap.size, 0, none⟩) 1 (w.alloc (.cells #[.int .u8 c] 5)) (rdI_new w .u8 c 5) (fun b hb => by rw [List.mem_singleton.1 hb]; exact ⟨h0, h1⟩)
  rw [memB_one] at h
  refine h.mono fun e w' ⟨a, b⟩ => ⟨a, ?_⟩
  exact (box_belowS w _).trans (b.mono (by simp))
section
variable (w0 : World) (base R : Nat) (s : ByteArray) (m : Mc) (w : World)
theorem put_leaf (lv : Value) (st : Sc) (own : Own) (pre : List LvE) (e : LvE) (f : Nat → Bool) (hR : RdB w R s lv st) (hL : LvI w base R lv own (pre ++ [e])) (hbase : base ≤ w.heap.size) (hbR : base ≤ R) (hlen : e.lv.row.length ≤ 1000) :
    Calls Tryd.prog 42 #[.pointer (some ⟨R, 0, none⟩), .agg #[.int .i64 1, .int .u64 (clsOf f 0), .int .u64 (clsOf f 1), .int .u64 (clsOf f 2), .int .u64 (clsOf f 3), .slice none 0 0, .int .i64 0, .int .i64 0]] w fun x w' =>
      x = .returned (.tuple #[]) ∧ ∃ own' e', e'.lv = e.lv.put (setN f) ∧ RdB w' R s lv st ∧ LvI w' base R lv own' (pre ++ [e']) ∧ Below base w w' :=
  put_any R s lv st w base own pre e ⟨setN f, none, 0⟩ hR hL (Nd.leaf w own _ rfl) hbase hbR hlen
set_option maxHeartbeats 2000000 in
theorem step_41a (hg : goes s m.sc) (hb : Bd m) (h : MI w0 w base R s m) (hc : gb s m.sc.at_ = 41) (hr : m.rest = []) : Calls Tryd.prog 23 #[.pointer (some ⟨R, 0, none⟩)] w fun x w' => x = .returned (.tuple #[]) ∧ MI w0 w' base R s (stepM s m) := by
  have hst : stepM s m = ⟨m.sc.adv.fail m.sc.at_ 2, m.top, []⟩ := by simp [stepM, hc, hr]
  rw [hst]
  clear hst
  obtain ⟨⟨lv, own, pre, e, hR, hL, he, hp⟩, hbel, hbR, hbs⟩ := h
  have hat := hg.2
  have he0 := hg.1
  have hsz := hR.hsz
  have hbe := hb m.top (List.mem_cons_self ..)
  rw [← he] at hbe
  obtain ⟨c0, c1, c2, c3, c4⟩ := hR.cells
  have hidx := fun W => idx_run s m.sc.at_ hg.2 W
  rw [hc] at hidx
  obtain ⟨a, ha⟩ : ∃ a, a = m.sc.at_ := ⟨_, rfl⟩
  rw [← ha] at hidx c1
  obtain ⟨p, hpp⟩ : ∃ p : Nat, p = a + 1 := ⟨_, rfl⟩
  have hw : IntKind.i64.wrap ((a : Int) + 1) = (p : Int) := by rw [IntKind.wrap_i64]; omega
  have hpl : p ≤ s.size := by omega
  have hadv : (⟨p, m.sc.pl, m.sc.e⟩ : Sc) = m.sc.adv := by rw [hpp, ha]; rfl
  have HADV := Lib.hid hadv
  have HA := Lib.hid ha
  have HPP := Lib.hid hpp
  have HP := Lib.hid hp
  have HE := Lib.hid he
  have HRR := Lib.hid hR
  have HL := Lib.hid hL
  have hl0 : e.lv.rows.length ≤ 1000 := by omega
  have hl1 : e.lv.row.length ≤ 1000 := by omega
  clear hadv ha hpp hp he hbe hL hR
  go_enter Tryd.func23, Tryd.ntmps23
  go_wp2
  go_quiet (fail)
  have h2 := HRR.out.drewN nq
  have h3 := h2.at_ p hpl
  rw [HADV.out] at h3
  have hf3 := (fr_drewN' w.heap.size R w nq).trans ((fr_set (w.drewN nq) R 1 (.int .i64 (p : Int))).mono (Nat.le_refl _))
  have hL3 := HL.out.fr hf3
  have hb3 : Below base w0 ((w.drewN nq).setCell ⟨R, 1, none⟩ (.int .i64 (p : Int))) := hbel.trans (hf3.below hbs hbR)
  have hs3 : base ≤ ((w.drewN nq).setCell ⟨R, 1, none⟩ (.int .i64 (p : Int))).heap.size := Nat.le_trans hbs hf3.size
  obtain ⟨d0, d1, d2, d3, d4⟩ := h2.cells
  obtain ⟨f0, f1, f2, f3, f4⟩ := h2.froz
  rw [← HA.out] at d1
  have HR3 := Lib.hid h3
  have HL3 := Lib.hid hL3
  have HB3 := Lib.hid hb3
  clear c0 c1 c2 c3 c4 h2 h3 hf3 hL3 hb3
  generalize w.drewN nq = w1 at *
  go_wp2_with fail
  clear d0 d1 d2 d3 d4 f0 f1 f2 f3 f4
  generalize w1.setCell ⟨R, 1, none⟩ (.int .i64 (p : Int)) = w2 at *
  rw [hr] at HP
  have hpre : pre = [] := by
    have := HP.out
    simpa using this
  have hX := bracket_one R s lv m.sc.adv w2 base own e (a : Int) HR3.out (by have := HL3.out; rw [hpre] at this; exact this)
  refine hX.mono ?_
  rintro x w4 ⟨rfl, h4, k4⟩
  have hL4 := HL3.out.fr k4
  have hb4 : Below base w0 w4 := HB3.out.trans (k4.below hs3 hbR)
  clear hX
  go_wp2
  go_end0
  refine ⟨rfl, ⟨lv, own, pre, e, by rw [← HA.out]; exact h4, hL4, HE.out, by rw [hpre]; rfl⟩, hb4, hbR, Nat.le_trans hs3 k4.size⟩
set_option maxHeartbeats 2000000 in
theorem step_41b (hg : goes s m.sc) (hb : Bd m) (h : MI w0 w base R s m) (hc : gb s m.sc.at_ = 41) (v : Lv) (vs : List Lv) (hr : m.rest = v :: vs) : Calls Tryd.prog 23 #[.pointer (some ⟨R, 0, none⟩)] w fun x w' => x = .returned (.tuple #[]) ∧ MI w0 w' base R s (stepM s m) := by
  have hst : stepM s m = ⟨m.sc.adv, v.put m.top.done, vs⟩ := by simp [stepM, hc, hr]
  rw [hst]
  clear hst
  obtain ⟨⟨lv, own, pre, e, hR, hL, he, hp⟩, hbel, hbR, hbs⟩ := h
  have hat := hg.2
  have he0 := hg.1
  have hsz := hR.hsz
  have hbe := hb m.top (List.mem_cons_self ..)
  rw [← he] at hbe
  obtain ⟨c0, c1, c2, c3, c4⟩ := hR.cells
  have hidx := fun W => idx_run s m.sc.at_ hg.2 W
  rw [hc] at hidx
  obtain ⟨a, ha⟩ : ∃ a, a = m.sc.at_ := ⟨_, rfl⟩
  rw [← ha] at hidx c1
  obtain ⟨p, hpp⟩ : ∃ p : Nat, p = a + 1 := ⟨_, rfl⟩
  have hw : IntKind.i64.wrap ((a : Int) + 1) = (p : Int) := by rw [IntKind.wrap_i64]; omega
  have hpl : p ≤ s.size := by omega
  have hadv : (⟨p, m.sc.pl, m.sc.e⟩ : Sc) = m.sc.adv := by rw [hpp, ha]; rfl
  have HADV := Lib.hid hadv
  have HA := Lib.hid ha
  have HPP := Lib.hid hpp
  have HP := Lib.hid hp
  have HE := Lib.hid he
  have HRR := Lib.hid hR
  have HL := Lib.hid hL
  have hl0 : e.lv.rows.length ≤ 1000 := by omega
  have hl1 : e.lv.row.length ≤ 1000 := by omega
  clear hadv ha hpp hp he hbe hL hR
  go_enter Tryd.func23, Tryd.ntmps23
  go_wp2
  go_quiet (fail)
  have h2 := HRR.out.drewN nq
  have h3 := h2.at_ p hpl
  rw [HADV.out] at h3
  have hf3 := (fr_drewN' w.heap.size R w nq).trans ((fr_set (w.drewN nq) R 1 (.int .i64 (p : Int))).mono (Nat.le_refl _))
  have hL3 := HL.out.fr hf3
  have hb3 : Below base w0 ((w.drewN nq).setCell ⟨R, 1, none⟩ (.int .i64 (p : Int))) := hbel.trans (hf3.below hbs hbR)
  have hs3 : base ≤ ((w.drewN nq).setCell ⟨R, 1, none⟩ (.int .i64 (p : Int))).heap.size := Nat.le_trans hbs hf3.size
  obtain ⟨d0, d1, d2, d3, d4⟩ := h2.cells
  obtain ⟨f0, f1, f2, f3, f4⟩ := h2.froz
  rw [← HA.out] at d1
  have HR3 := Lib.hid h3
  have HL3 := Lib.hid hL3
  have HB3 := Lib.hid hb3
  clear c0 c1 c2 c3 c4 h2 h3 hf3 hL3 hb3
  generalize w.drewN nq = w1 at *
  go_wp2_with fail
  clear d0 d1 d2 d3 d4 f0 f1 f2 f3 f4
  generalize w1.setCell ⟨R, 1, none⟩ (.int .i64 (p : Int)) = w2 at *
  rw [hr] at HP
  obtain ⟨pre2, par, hpre, hpar, hp2⟩ : ∃ pre2 par, pre = pre2 ++ [par] ∧ par.lv = v ∧ pre2.map LvE.lv = vs.reverse := by
    have h1 := HP.out
    rw [List.reverse_cons] at h1
    obtain ⟨x, y, h2, h3, h4⟩ := List.map_eq_append_iff.1 h1
    obtain ⟨z, zs, h5, h6, h7⟩ := List.map_eq_cons_iff.1 h4
    rw [List.map_eq_nil_iff.1 h7] at h5
    exact ⟨x, z, by rw [h2, h5], h6, h3⟩
  have hbv := hb v (by rw [hr]; simp)
  rw [hpre] at HL3
  have hX := bracket_any R s lv m.sc.adv w2 base own pre2 par e (a : Int) HR3.out HL3.out hs3 hbR hl0 hl1 (by rw [hpar]; have := HA.out; omega)
  refine hX.mono ?_
  rintro x w4 ⟨rfl, lv', own', par', h5, h4, hL4, hb4⟩
  clear hX
  go_wp2
  go_end0
  refine ⟨rfl, ⟨lv', own', pre2, par', h4, hL4, by rw [h5, hpar, HE.out], hp2⟩, HB3.out.trans hb4, hbR, Nat.le_trans hs3 hb4.size⟩
set_option maxHeartbeats 2000000 in
theorem step_124 (hg : goes s m.sc) (hb : Bd m) (h : MI w0 w base R s m) (hc : gb s m.sc.at_ = 124) : Calls Tryd.prog 23 #[.pointer (some ⟨R, 0, none⟩)] w fun x w' => x = .returned (.tuple #[]) ∧ MI w0 w' base R s (stepM s m) := by
  have hst : stepM s m = ⟨m.sc.adv, m.top.close, m.rest⟩ := by simp [stepM, hc]
  rw [hst]
  clear hst
  obtain ⟨⟨lv, own, pre, e, hR, hL, he, hp⟩, hbel, hbR, hbs⟩ := h
  have hat := hg.2
  have he0 := hg.1
  have hsz := hR.hsz
  have hbe := hb m.top (List.mem_cons_self ..)
  rw [← he] at hbe
  obtain ⟨c0, c1, c2, c3, c4⟩ := hR.cells
  have hidx := fun W => idx_run s m.sc.at_ hg.2 W
  rw [hc] at hidx
  obtain ⟨a, ha⟩ : ∃ a, a = m.sc.at_ := ⟨_, rfl⟩
  rw [← ha] at hidx c1
  obtain ⟨p, hpp⟩ : ∃ p : Nat, p = a + 1 := ⟨_, rfl⟩
  have hw : IntKind.i64.wrap ((a : Int) + 1) = (p : Int) := by rw [IntKind.wrap_i64]; omega
  have hpl : p ≤ s.size := by omega
  have hadv : (⟨p, m.sc.pl, m.sc.e⟩ : Sc) = m.sc.adv := by rw [hpp, ha]; rfl
  have HADV := Lib.hid hadv
  have HA := Lib.hid ha
  have HPP := Lib.hid hpp
  have HP := Lib.hid hp
  have HE := Lib.hid he
  have HRR := Lib.hid hR
  have HL := Lib.hid hL
  have hl0 : e.lv.rows.length ≤ 1000 := by omega
  have hl1 : e.lv.row.length ≤ 1000 := by omega
  clear hadv ha hpp hp he hbe hL hR
  go_enter Tryd.func23, Tryd.ntmps23
  go_wp2
  go_quiet (fail)
  have h2 := HRR.out.drewN nq
  have h3 := h2.at_ p hpl
  rw [HADV.out] at h3
  have hf3 := (fr_drewN' w.heap.size R w nq).trans ((fr_set (w.drewN nq) R 1 (.int .i64 (p : Int))).mono (Nat.le_refl _))
  have hL3 := HL.out.fr hf3
  have hb3 : Below base w0 ((w.drewN nq).setCell ⟨R, 1, none⟩ (.int .i64 (p : Int))) := hbel.trans (hf3.below hbs hbR)
  have hs3 : base ≤ ((w.drewN nq).setCell ⟨R, 1, none⟩ (.int .i64 (p : Int))).heap.size := Nat.le_trans hbs hf3.size
  obtain ⟨d0, d1, d2, d3, d4⟩ := h2.cells
  obtain ⟨f0, f1, f2, f3, f4⟩ := h2.froz
  rw [← HA.out] at d1
  have HR3 := Lib.hid h3
  have HL3 := Lib.hid hL3
  have HB3 := Lib.hid hb3
  clear c0 c1 c2 c3 c4 h2 h3 hf3 hL3 hb3
  generalize w.drewN nq = w1 at *
  go_wp2_with fail
  clear d0 d1 d2 d3 d4 f0 f1 f2 f3 f4
  generalize w1.setCell ⟨R, 1, none⟩ (.int .i64 (p : Int)) = w2 at *
  obtain ⟨L, cap, hlv, hL1, hL2, hL3', hL4, hL5, l0, l1, fl0, fl1⟩ := HL3.out.cells
  have hc2 := HR3.out.cells.2.2.1
  rw [hlv] at hc2
  clear l0 l1 fl0 fl1
  refine (top_any R L pre.length cap _ hc2 hL4 hL5).mono ?_
  rintro x w3 ⟨rfl, m3, rfl⟩
  have hX := close_any R s lv m.sc.adv (w2.drewN m3) base own pre e L cap (HR3.out.drewN m3) (HL3.out.fr (fr_drewN' w2.heap.size R w2 m3)) hs3 hl0 hl1 hlv
  clear hc2
  go_wp2_with fail
  refine hX.mono ?_
  rintro x w4 ⟨rfl, own', e', h5, h4, hL4', hb4⟩
  clear hX
  have hb5 : Below base w2 w4 := ⟨hb4.os, hb4.tape, hb4.output, hb4.size, hb4.block⟩
  go_wp2
  go_end0
  refine ⟨rfl, ⟨lv, own', pre, e', h4, hL4', by rw [h5, HE.out], HP.out⟩, HB3.out.trans hb5, hbR, Nat.le_trans hs3 hb5.size⟩
set_option maxHeartbeats 2000000 in
theorem step_42a (hg : goes s m.sc) (hb : Bd m) (h : MI w0 w base R s m) (hc : gb s m.sc.at_ = 42) (hr : m.top.row = []) : Calls Tryd.prog 23 #[.pointer (some ⟨R, 0, none⟩)] w fun x w' => x = .returned (.tuple #[]) ∧ MI w0 w' base R s (stepM s m) := by
  have hst : stepM s m = ⟨m.sc.adv.fail m.sc.at_ 2, m.top, m.rest⟩ := by simp [stepM, hc, hr, Mc.repeat_]
  rw [hst]
  clear hst
  obtain ⟨⟨lv, own, pre, e, hR, hL, he, hp⟩, hbel, hbR, hbs⟩ := h
  have hat := hg.2
  have he0 := hg.1
  have hsz := hR.hsz
  have hbe := hb m.top (List.mem_cons_self ..)
  rw [← he] at hbe
  obtain ⟨c0, c1, c2, c3, c4⟩ := hR.cells
  have hidx := fun W => idx_run s m.sc.at_ hg.2 W
  rw [hc] at hidx
  obtain ⟨a, ha⟩ : ∃ a, a = m.sc.at_ := ⟨_, rfl⟩
  rw [← ha] at hidx c1
  obtain ⟨p, hpp⟩ : ∃ p : Nat, p = a + 1 := ⟨_, rfl⟩
  have hw : IntKind.i64.wrap ((a : Int) + 1) = (p : Int) := by rw [IntKind.wrap_i64]; omega
  have hpl : p ≤ s.size := by omega
  have hadv : (⟨p, m.sc.pl, m.sc.e⟩ : Sc) = m.sc.adv := by rw [hpp, ha]; rfl
  have HADV := Lib.hid hadv
  have HA := Lib.hid ha
  have HPP := Lib.hid hpp
  have HP := Lib.hid hp
  have HE := Lib.hid he
  have HRR := Lib.hid hR
  have HL := Lib.hid hL
  have hl0 : e.lv.rows.length ≤ 1000 := by omega
  have hl1 : e.lv.row.length ≤ 1000 := by omega
  clear hadv ha hpp hp he hbe hL hR
  go_enter Tryd.func23, Tryd.ntmps23
  go_wp2
  go_quiet (fail)
  have h2 := HRR.out.drewN nq
  have h3 := h2.at_ p hpl
  rw [HADV.out] at h3
  have hf3 := (fr_drewN' w.heap.size R w nq).trans ((fr_set (w.drewN nq) R 1 (.int .i64 (p : Int))).mono (Nat.le_refl _))
  have hL3 := HL.out.fr hf3
  have hb3 : Below base w0 ((w.drewN nq).setCell ⟨R, 1, none⟩ (.int .i64 (p : Int))) := hbel.trans (hf3.below hbs hbR)
  have hs3 : base ≤ ((w.drewN nq).setCell ⟨R, 1, none⟩ (.int .i64 (p : Int))).heap.size := Nat.le_trans hbs hf3.size
  obtain ⟨d0, d1, d2, d3, d4⟩ := h2.cells
  obtain ⟨f0, f1, f2, f3, f4⟩ := h2.froz
  rw [← HA.out] at d1
  have HR3 := Lib.hid h3
  have HL3 := Lib.hid hL3
  have HB3 := Lib.hid hb3
  clear c0 c1 c2 c3 c4 h2 h3 hf3 hL3 hb3
  generalize w.drewN nq = w1 at *
  go_wp2_with fail
  clear d0 d1 d2 d3 d4 f0 f1 f2 f3 f4
  generalize w1.setCell ⟨R, 1, none⟩ (.int .i64 (p : Int)) = w2 at *
  have hX := rep_none R s lv m.sc.adv w2 base own pre e (a : Int) 0 (-1) HR3.out HL3.out hbR (by rw [HE.out]; exact hr)
  refine hX.mono ?_
  rintro x w4 ⟨rfl, h4, k4⟩
  have hL4 := HL3.out.fr k4
  have hb4 : Below base w0 w4 := HB3.out.trans (k4.below hs3 hbR)
  clear hX
  go_wp2
  go_end0
  refine ⟨rfl, ⟨lv, own, pre, e, by rw [← HA.out]; exact h4, hL4, HE.out, HP.out⟩, hb4, hbR, Nat.le_trans hs3 k4.size⟩
set_option maxHeartbeats 2000000 in
theorem step_42b (hg : goes s m.sc) (hb : Bd m) (h : MI w0 w base R s m) (hc : gb s m.sc.at_ = 42) (hr : m.top.row ≠ []) : Calls Tryd.prog 23 #[.pointer (some ⟨R, 0, none⟩)] w fun x w' => x = .returned (.tuple #[]) ∧ MI w0 w' base R s (stepM s m) := by
  have hst : stepM s m = ⟨m.sc.adv, m.top.rep 0 (-1), m.rest⟩ := by simp [stepM, hc, hr, Mc.repeat_]
  rw [hst]
  clear hst
  obtain ⟨⟨lv, own, pre, e, hR, hL, he, hp⟩, hbel, hbR, hbs⟩ := h
  have hat := hg.2
  have he0 := hg.1
  have hsz := hR.hsz
  have hbe := hb m.top (List.mem_cons_self ..)
  rw [← he] at hbe
  obtain ⟨c0, c1, c2, c3, c4⟩ := hR.cells
  have hidx := fun W => idx_run s m.sc.at_ hg.2 W
  rw [hc] at hidx
  obtain ⟨a, ha⟩ : ∃ a, a = m.sc.at_ := ⟨_, rfl⟩
  rw [← ha] at hidx c1
  obtain ⟨p, hpp⟩ : ∃ p : Nat, p = a + 1 := ⟨_, rfl⟩
  have hw : IntKind.i64.wrap ((a : Int) + 1) = (p : Int) := by rw [IntKind.wrap_i64]; omega
  have hpl : p ≤ s.size := by omega
  have hadv : (⟨p, m.sc.pl, m.sc.e⟩ : Sc) = m.sc.adv := by rw [hpp, ha]; rfl
  have HADV := Lib.hid hadv
  have HA := Lib.hid ha
  have HPP := Lib.hid hpp
  have HP := Lib.hid hp
  have HE := Lib.hid he
  have HRR := Lib.hid hR
  have HL := Lib.hid hL
  have hl0 : e.lv.rows.length ≤ 1000 := by omega
  have hl1 : e.lv.row.length ≤ 1000 := by omega
  clear hadv ha hpp hp he hbe hL hR
  go_enter Tryd.func23, Tryd.ntmps23
  go_wp2
  go_quiet (fail)
  have h2 := HRR.out.drewN nq
  have h3 := h2.at_ p hpl
  rw [HADV.out] at h3
  have hf3 := (fr_drewN' w.heap.size R w nq).trans ((fr_set (w.drewN nq) R 1 (.int .i64 (p : Int))).mono (Nat.le_refl _))
  have hL3 := HL.out.fr hf3
  have hb3 : Below base w0 ((w.drewN nq).setCell ⟨R, 1, none⟩ (.int .i64 (p : Int))) := hbel.trans (hf3.below hbs hbR)
  have hs3 : base ≤ ((w.drewN nq).setCell ⟨R, 1, none⟩ (.int .i64 (p : Int))).heap.size := Nat.le_trans hbs hf3.size
  obtain ⟨d0, d1, d2, d3, d4⟩ := h2.cells
  obtain ⟨f0, f1, f2, f3, f4⟩ := h2.froz
  rw [← HA.out] at d1
  have HR3 := Lib.hid h3
  have HL3 := Lib.hid hL3
  have HB3 := Lib.hid hb3
  clear c0 c1 c2 c3 c4 h2 h3 hf3 hL3 hb3
  generalize w.drewN nq = w1 at *
  go_wp2_with fail
  clear d0 d1 d2 d3 d4 f0 f1 f2 f3 f4
  generalize w1.setCell ⟨R, 1, none⟩ (.int .i64 (p : Int)) = w2 at *
  have hX := rep_any R s lv m.sc.adv w2 base own pre e (a : Int) 0 (-1) HR3.out HL3.out hs3 hl1 (by rw [HE.out]; exact hr)
  refine hX.mono ?_
  rintro x w4 ⟨rfl, own', e', h5, h4, hL4, hb4⟩
  clear hX
  go_wp2
  go_end0
  refine ⟨rfl, ⟨lv, own', pre, e', h4, hL4, by rw [h5, HE.out], HP.out⟩, HB3.out.trans hb4, hbR, Nat.le_trans hs3 hb4.size⟩
set_option maxHeartbeats 2000000 in
theorem step_43a (hg : goes s m.sc) (hb : Bd m) (h : MI w0 w base R s m) (hc : gb s m.sc.at_ = 43) (hr : m.top.row = []) : Calls Tryd.prog 23 #[.pointer (some ⟨R, 0, none⟩)] w fun x w' => x = .returned (.tuple #[]) ∧ MI w0 w' base R s (stepM s m) := by
  have hst : stepM s m = ⟨m.sc.adv.fail m.sc.at_ 2, m.top, m.rest⟩ := by simp [stepM, hc, hr, Mc.repeat_]
  rw [hst]
  clear hst
  obtain ⟨⟨lv, own, pre, e, hR, hL, he, hp⟩, hbel, hbR, hbs⟩ := h
  have hat := hg.2
  have he0 := hg.1
  have hsz := hR.hsz
  have hbe := hb m.top (List.mem_cons_self ..)
  rw [← he] at hbe
  obtain ⟨c0, c1, c2, c3, c4⟩ := hR.cells
  have hidx := fun W => idx_run s m.sc.at_ hg.2 W
  rw [hc] at hidx
  obtain ⟨a, ha⟩ : ∃ a, a = m.sc.at_ := ⟨_, rfl⟩
  rw [← ha] at hidx c1
  obtain ⟨p, hpp⟩ : ∃ p : Nat, p = a + 1 := ⟨_, rfl⟩
  have hw : IntKind.i64.wrap ((a : Int) + 1) = (p : Int) := by rw [IntKind.wrap_i64]; omega
  have hpl : p ≤ s.size := by omega
  have hadv : (⟨p, m.sc.pl, m.sc.e⟩ : Sc) = m.sc.adv := by rw [hpp, ha]; rfl
  have HADV := Lib.hid hadv
  have HA := Lib.hid ha
  have HPP := Lib.hid hpp
  have HP := Lib.hid hp
  have HE := Lib.hid he
  have HRR := Lib.hid hR
  have HL := Lib.hid hL
  have hl0 : e.lv.rows.length ≤ 1000 := by omega
  have hl1 : e.lv.row.length ≤ 1000 := by omega
  clear hadv ha hpp hp he hbe hL hR
  go_enter Tryd.func23, Tryd.ntmps23
  go_wp2
  go_quiet (fail)
  have h2 := HRR.out.drewN nq
  have h3 := h2.at_ p hpl
  rw [HADV.out] at h3
  have hf3 := (fr_drewN' w.heap.size R w nq).trans ((fr_set (w.drewN nq) R 1 (.int .i64 (p : Int))).mono (Nat.le_refl _))
  have hL3 := HL.out.fr hf3
  have hb3 : Below base w0 ((w.drewN nq).setCell ⟨R, 1, none⟩ (.int .i64 (p : Int))) := hbel.trans (hf3.below hbs hbR)
  have hs3 : base ≤ ((w.drewN nq).setCell ⟨R, 1, none⟩ (.int .i64 (p : Int))).heap.size := Nat.le_trans hbs hf3.size
  obtain ⟨d0, d1, d2, d3, d4⟩ := h2.cells
  obtain ⟨f0, f1, f2, f3, f4⟩ := h2.froz
  rw [← HA.out] at d1
  have HR3 := Lib.hid h3
  have HL3 := Lib.hid hL3
  have HB3 := Lib.hid hb3
  clear c0 c1 c2 c3 c4 h2 h3 hf3 hL3 hb3
  generalize w.drewN nq = w1 at *
  go_wp2_with fail
  clear d0 d1 d2 d3 d4 f0 f1 f2 f3 f4
  generalize w1.setCell ⟨R, 1, none⟩ (.int .i64 (p : Int)) = w2 at *
  have hX := rep_none R s lv m.sc.adv w2 base own pre e (a : Int) 1 (-1) HR3.out HL3.out hbR (by rw [HE.out]; exact hr)
  refine hX.mono ?_
  rintro x w4 ⟨rfl, h4, k4⟩
  have hL4 := HL3.out.fr k4
  have hb4 : Below base w0 w4 := HB3.out.trans (k4.below hs3 hbR)
  clear hX
  go_wp2
  go_end0
  refine ⟨rfl, ⟨lv, own, pre, e, by rw [← HA.out]; exact h4, hL4, HE.out, HP.out⟩, hb4, hbR, Nat.le_trans hs3 k4.size⟩
set_option maxHeartbeats 2000000 in
theorem step_43b (hg : goes s m.sc) (hb : Bd m) (h : MI w0 w base R s m) (hc : gb s m.sc.at_ = 43) (hr : m.top.row ≠ []) : Calls Tryd.prog 23 #[.pointer (some ⟨R, 0, none⟩)] w fun x w' => x = .returned (.tuple #[]) ∧ MI w0 w' base R s (stepM s m) := by
  have hst : stepM s m = ⟨m.sc.adv, m.top.rep 1 (-1), m.rest⟩ := by simp [stepM, hc, hr, Mc.repeat_]
  rw [hst]
  clear hst
  obtain ⟨⟨lv, own, pre, e, hR, hL, he, hp⟩, hbel, hbR, hbs⟩ := h
  have hat := hg.2
  have he0 := hg.1
  have hsz := hR.hsz
  have hbe := hb m.top (List.mem_cons_self ..)
  rw [← he] at hbe
  obtain ⟨c0, c1, c2, c3, c4⟩ := hR.cells
  have hidx := fun W => idx_run s m.sc.at_ hg.2 W
  rw [hc] at hidx
  obtain ⟨a, ha⟩ : ∃ a, a = m.sc.at_ := ⟨_, rfl⟩
  rw [← ha] at hidx c1
  obtain ⟨p, hpp⟩ : ∃ p : Nat, p = a + 1 := ⟨_, rfl⟩
  have hw : IntKind.i64.wrap ((a : Int) + 1) = (p : Int) := by rw [IntKind.wrap_i64]; omega
  have hpl : p ≤ s.size := by omega
  have hadv : (⟨p, m.sc.pl, m.sc.e⟩ : Sc) = m.sc.adv := by rw [hpp, ha]; rfl
  have HADV := Lib.hid hadv
  have HA := Lib.hid ha
  have HPP := Lib.hid hpp
  have HP := Lib.hid hp
  have HE := Lib.hid he
  have HRR := Lib.hid hR
  have HL := Lib.hid hL
  have hl0 : e.lv.rows.length ≤ 1000 := by omega
  have hl1 : e.lv.row.length ≤ 1000 := by omega
  clear hadv ha hpp hp he hbe hL hR
  go_enter Tryd.func23, Tryd.ntmps23
  go_wp2
  go_quiet (fail)
  have h2 := HRR.out.drewN nq
  have h3 := h2.at_ p hpl
  rw [HADV.out] at h3
  have hf3 := (fr_drewN' w.heap.size R w nq).trans ((fr_set (w.drewN nq) R 1 (.int .i64 (p : Int))).mono (Nat.le_refl _))
  have hL3 := HL.out.fr hf3
  have hb3 : Below base w0 ((w.drewN nq).setCell ⟨R, 1, none⟩ (.int .i64 (p : Int))) := hbel.trans (hf3.below hbs hbR)
  have hs3 : base ≤ ((w.drewN nq).setCell ⟨R, 1, none⟩ (.int .i64 (p : Int))).heap.size := Nat.le_trans hbs hf3.size
  obtain ⟨d0, d1, d2, d3, d4⟩ := h2.cells
  obtain ⟨f0, f1, f2, f3, f4⟩ := h2.froz
  rw [← HA.out] at d1
  have HR3 := Lib.hid h3
  have HL3 := Lib.hid hL3
  have HB3 := Lib.hid hb3
  clear c0 c1 c2 c3 c4 h2 h3 hf3 hL3 hb3
  generalize w.drewN nq = w1 at *
  go_wp2_with fail
  clear d0 d1 d2 d3 d4 f0 f1 f2 f3 f4
  generalize w1.setCell ⟨R, 1, none⟩ (.int .i64 (p : Int)) = w2 at *
  have hX := rep_any R s lv m.sc.adv w2 base own pre e (a : Int) 1 (-1) HR3.out HL3.out hs3 hl1 (by rw [HE.out]; exact hr)
  refine hX.mono ?_
  rintro x w4 ⟨rfl, own', e', h5, h4, hL4, hb4⟩
  clear hX
  go_wp2
  go_end0
  refine ⟨rfl, ⟨lv, own', pre, e', h4, hL4, by rw [h5, HE.out], HP.out⟩, HB3.out.trans hb4, hbR, Nat.le_trans hs3 hb4.size⟩
set_option maxHeartbeats 2000000 in
theorem step_63a (hg : goes s m.sc) (hb : Bd m) (h : MI w0 w base R s m) (hc : gb s m.sc.at_ = 63) (hr : m.top.row = []) : Calls Tryd.prog 23 #[.pointer (some ⟨R, 0, none⟩)] w fun x w' => x = .returned (.tuple #[]) ∧ MI w0 w' base R s (stepM s m) := by
  have hst : stepM s m = ⟨m.sc.adv.fail m.sc.at_ 2, m.top, m.rest⟩ := by simp [stepM, hc, hr, Mc.repeat_]
  rw [hst]
  clear hst
  obtain ⟨⟨lv, own, pre, e, hR, hL, he, hp⟩, hbel, hbR, hbs⟩ := h
  have hat := hg.2
  have he0 := hg.1
  have hsz := hR.hsz
  have hbe := hb m.top (List.mem_cons_self ..)
  rw [← he] at hbe
  obtain ⟨c0, c1, c2, c3, c4⟩ := hR.cells
  have hidx := fun W => idx_run s m.sc.at_ hg.2 W
  rw [hc] at hidx
  obtain ⟨a, ha⟩ : ∃ a, a = m.sc.at_ := ⟨_, rfl⟩
  rw [← ha] at hidx c1
  obtain ⟨p, hpp⟩ : ∃ p : Nat, p = a + 1 := ⟨_, rfl⟩
  have hw : IntKind.i64.wrap ((a : Int) + 1) = (p : Int) := by rw [IntKind.wrap_i64]; omega
  have hpl : p ≤ s.size := by omega
  have hadv : (⟨p, m.sc.pl, m.sc.e⟩ : Sc) = m.sc.adv := by rw [hpp, ha]; rfl
  have HADV := Lib.hid hadv
  have HA := Lib.hid ha
  have HPP := Lib.hid hpp
  have HP := Lib.hid hp
  have HE := Lib.hid he
  have HRR := Lib.hid hR
  have HL := Lib.hid hL
  have hl0 : e.lv.rows.length ≤ 1000 := by omega
  have hl1 : e.lv.row.length ≤ 1000 := by omega
  clear hadv ha hpp hp he hbe hL hR
  go_enter Tryd.func23, Tryd.ntmps23
  go_wp2
  go_quiet (fail)
  have h2 := HRR.out.drewN nq
  have h3 := h2.at_ p hpl
  rw [HADV.out] at h3
  have hf3 := (fr_drewN' w.heap.size R w nq).trans ((fr_set (w.drewN nq) R 1 (.int .i64 (p : Int))).mono (Nat.le_refl _))
  have hL3 := HL.out.fr hf3
  have hb3 : Below base w0 ((w.drewN nq).setCell ⟨R, 1, none⟩ (.int .i64 (p : Int))) := hbel.trans (hf3.below hbs hbR)
  have hs3 : base ≤ ((w.drewN nq).setCell ⟨R, 1, none⟩ (.int .i64 (p : Int))).heap.size := Nat.le_trans hbs hf3.size
  obtain ⟨d0, d1, d2, d3, d4⟩ := h2.cells
  obtain ⟨f0, f1, f2, f3, f4⟩ := h2.froz
  rw [← HA.out] at d1
  have HR3 := Lib.hid h3
  have HL3 := Lib.hid hL3
  have HB3 := Lib.hid hb3
  clear c0 c1 c2 c3 c4 h2 h3 hf3 hL3 hb3
  generalize w.drewN nq = w1 at *
  go_wp2_with fail
  clear d0 d1 d2 d3 d4 f0 f1 f2 f3 f4
  generalize w1.setCell ⟨R, 1, none⟩ (.int .i64 (p : Int)) = w2 at *
  have hX := rep_none R s lv m.sc.adv w2 base own pre e (a : Int) 0 1 HR3.out HL3.out hbR (by rw [HE.out]; exact hr)
  refine hX.mono ?_
  rintro x w4 ⟨rfl, h4, k4⟩
  have hL4 := HL3.out.fr k4
  have hb4 : Below base w0 w4 := HB3.out.trans (k4.below hs3 hbR)
  clear hX
  go_wp2
  go_end0
  refine ⟨rfl, ⟨lv, own, pre, e, by rw [← HA.out]; exact h4, hL4, HE.out, HP.out⟩, hb4, hbR, Nat.le_trans hs3 k4.size⟩
set_option maxHeartbeats 2000000 in
theorem step_63b (hg : goes s m.sc) (hb : Bd m) (h : MI w0 w base R s m) (hc : gb s m.sc.at_ = 63) (hr : m.top.row ≠ []) : Calls Tryd.prog 23 #[.pointer (some ⟨R, 0, none⟩)] w fun x w' => x = .returned (.tuple #[]) ∧ MI w0 w' base R s (stepM s m) := by
  have hst : stepM s m = ⟨m.sc.adv, m.top.rep 0 1, m.rest⟩ := by simp [stepM, hc, hr, Mc.repeat_]
  rw [hst]
  clear hst
  obtain ⟨⟨lv, own, pre, e, hR, hL, he, hp⟩, hbel, hbR, hbs⟩ := h
  have hat := hg.2
  have he0 := hg.1
  have hsz := hR.hsz
  have hbe := hb m.top (List.mem_cons_self ..)
  rw [← he] at hbe
  obtain ⟨c0, c1, c2, c3, c4⟩ := hR.cells
  have hidx := fun W => idx_run s m.sc.at_ hg.2 W
  rw [hc] at hidx
  obtain ⟨a, ha⟩ : ∃ a, a = m.sc.at_ := ⟨_, rfl⟩
  rw [← ha] at hidx c1
  obtain ⟨p, hpp⟩ : ∃ p : Nat, p = a + 1 := ⟨_, rfl⟩
  have hw : IntKind.i64.wrap ((a : Int) + 1) = (p : Int) := by rw [IntKind.wrap_i64]; omega
  have hpl : p ≤ s.size := by omega
  have hadv : (⟨p, m.sc.pl, m.sc.e⟩ : Sc) = m.sc.adv := by rw [hpp, ha]; rfl
  have HADV := Lib.hid hadv
  have HA := Lib.hid ha
  have HPP := Lib.hid hpp
  have HP := Lib.hid hp
  have HE := Lib.hid he
  have HRR := Lib.hid hR
  have HL := Lib.hid hL
  have hl0 : e.lv.rows.length ≤ 1000 := by omega
  have hl1 : e.lv.row.length ≤ 1000 := by omega
  clear hadv ha hpp hp he hbe hL hR
  go_enter Tryd.func23, Tryd.ntmps23
  go_wp2
  go_quiet (fail)
  have h2 := HRR.out.drewN nq
  have h3 := h2.at_ p hpl
  rw [HADV.out] at h3
  have hf3 := (fr_drewN' w.heap.size R w nq).trans ((fr_set (w.drewN nq) R 1 (.int .i64 (p : Int))).mono (Nat.le_refl _))
  have hL3 := HL.out.fr hf3
  have hb3 : Below base w0 ((w.drewN nq).setCell ⟨R, 1, none⟩ (.int .i64 (p : Int))) := hbel.trans (hf3.below hbs hbR)
  have hs3 : base ≤ ((w.drewN nq).setCell ⟨R, 1, none⟩ (.int .i64 (p : Int))).heap.size := Nat.le_trans hbs hf3.size
  obtain ⟨d0, d1, d2, d3, d4⟩ := h2.cells
  obtain ⟨f0, f1, f2, f3, f4⟩ := h2.froz
  rw [← HA.out] at d1
  have HR3 := Lib.hid h3
  have HL3 := Lib.hid hL3
  have HB3 := Lib.hid hb3
  clear c0 c1 c2 c3 c4 h2 h3 hf3 hL3 hb3
  generalize w.drewN nq = w1 at *
  go_wp2_with fail
  clear d0 d1 d2 d3 d4 f0 f1 f2 f3 f4
  generalize w1.setCell ⟨R, 1, none⟩ (.int .i64 (p : Int)) = w2 at *
  have hX := rep_any R s lv m.sc.adv w2 base own pre e (a : Int) 0 1 HR3.out HL3.out hs3 hl1 (by rw [HE.out]; exact hr)
  refine hX.mono ?_
  rintro x w4 ⟨rfl, own', e', h5, h4, hL4, hb4⟩
  clear hX
  go_wp2
  go_end0
  refine ⟨rfl, ⟨lv, own', pre, e', h4, hL4, by rw [h5, HE.out], HP.out⟩, HB3.out.trans hb4, hbR, Nat.le_trans hs3 hb4.size⟩
set_option maxHeartbeats 2000000 in
theorem step_123a (hg : goes s m.sc) (hb : Bd m) (h : MI w0 w base R s m) (hc : gb s m.sc.at_ = 123) (hr : m.top.row = []) : Calls Tryd.prog 23 #[.pointer (some ⟨R, 0, none⟩)] w fun x w' => x = .returned (.tuple #[]) ∧ MI w0 w' base R s (stepM s m) := by
  have hst : stepM s m = ⟨m.sc.adv.fail m.sc.at_ 2, m.top, m.rest⟩ := by simp [stepM, hc, hr]
  rw [hst]
  clear hst
  obtain ⟨⟨lv, own, pre, e, hR, hL, he, hp⟩, hbel, hbR, hbs⟩ := h
  have hat := hg.2
  have he0 := hg.1
  have hsz := hR.hsz
  have hbe := hb m.top (List.mem_cons_self ..)
  rw [← he] at hbe
  obtain ⟨c0, c1, c2, c3, c4⟩ := hR.cells
  have hidx := fun W => idx_run s m.sc.at_ hg.2 W
  rw [hc] at hidx
  obtain ⟨a, ha⟩ : ∃ a, a = m.sc.at_ := ⟨_, rfl⟩
  rw [← ha] at hidx c1
  obtain ⟨p, hpp⟩ : ∃ p : Nat, p = a + 1 := ⟨_, rfl⟩
  have hw : IntKind.i64.wrap ((a : Int) + 1) = (p : Int) := by rw [IntKind.wrap_i64]; omega
  have hpl : p ≤ s.size := by omega
  have hadv : (⟨p, m.sc.pl, m.sc.e⟩ : Sc) = m.sc.adv := by rw [hpp, ha]; rfl
  have HADV := Lib.hid hadv
  have HA := Lib.hid ha
  have HPP := Lib.hid hpp
  have HP := Lib.hid hp
  have HE := Lib.hid he
  have HRR := Lib.hid hR
  have HL := Lib.hid hL
  have hl0 : e.lv.rows.length ≤ 1000 := by omega
  have hl1 : e.lv.row.length ≤ 1000 := by omega
  clear hadv ha hpp hp he hbe hL hR
  go_enter Tryd.func23, Tryd.ntmps23
  go_wp2
  go_quiet (fail)
  have h2 := HRR.out.drewN nq
  have h3 := h2.at_ p hpl
  rw [HADV.out] at h3
  have hf3 := (fr_drewN' w.heap.size R w nq).trans ((fr_set (w.drewN nq) R 1 (.int .i64 (p : Int))).mono (Nat.le_refl _))
  have hL3 := HL.out.fr hf3
  have hb3 : Below base w0 ((w.drewN nq).setCell ⟨R, 1, none⟩ (.int .i64 (p : Int))) := hbel.trans (hf3.below hbs hbR)
  have hs3 : base ≤ ((w.drewN nq).setCell ⟨R, 1, none⟩ (.int .i64 (p : Int))).heap.size := Nat.le_trans hbs hf3.size
  obtain ⟨d0, d1, d2, d3, d4⟩ := h2.cells
  obtain ⟨f0, f1, f2, f3, f4⟩ := h2.froz
  rw [← HA.out] at d1
  have HR3 := Lib.hid h3
  have HL3 := Lib.hid hL3
  have HB3 := Lib.hid hb3
  clear c0 c1 c2 c3 c4 h2 h3 hf3 hL3 hb3
  generalize w.drewN nq = w1 at *
  go_wp2_with fail
  clear d0 d1 d2 d3 d4 f0 f1 f2 f3 f4
  generalize w1.setCell ⟨R, 1, none⟩ (.int .i64 (p : Int)) = w2 at *
  have hX := brace_none R s lv m.sc.adv w2 base own pre e (a : Int) HR3.out HL3.out (by rw [HE.out]; exact hr)
  refine hX.mono ?_
  rintro x w4 ⟨rfl, h4, k4⟩
  have hL4 := HL3.out.fr k4
  have hb4 : Below base w0 w4 := HB3.out.trans (k4.below hs3 hbR)
  clear hX
  go_wp2
  go_end0
  refine ⟨rfl, ⟨lv, own, pre, e, by rw [← HA.out]; exact h4, hL4, HE.out, HP.out⟩, hb4, hbR, Nat.le_trans hs3 k4.size⟩
set_option maxHeartbeats 2000000 in
theorem step_123b (hg : goes s m.sc) (hb : Bd m) (h : MI w0 w base R s m) (hc : gb s m.sc.at_ = 123) (hr : m.top.row ≠ []) : Calls Tryd.prog 23 #[.pointer (some ⟨R, 0, none⟩)] w fun x w' => x = .returned (.tuple #[]) ∧ MI w0 w' base R s (stepM s m) := by
  have hst : stepM s m = ⟨(timesS s m.sc.adv).2, m.top.rep (timesS s m.sc.adv).1.1 (timesS s m.sc.adv).1.2, m.rest⟩ := by simp [stepM, hc, hr]
  rw [hst]
  clear hst
  obtain ⟨⟨lv, own, pre, e, hR, hL, he, hp⟩, hbel, hbR, hbs⟩ := h
  have hat := hg.2
  have he0 := hg.1
  have hsz := hR.hsz
  have hbe := hb m.top (List.mem_cons_self ..)
  rw [← he] at hbe
  obtain ⟨c0, c1, c2, c3, c4⟩ := hR.cells
  have hidx := fun W => idx_run s m.sc.at_ hg.2 W
  rw [hc] at hidx
  obtain ⟨a, ha⟩ : ∃ a, a = m.sc.at_ := ⟨_, rfl⟩
  rw [← ha] at hidx c1
  obtain ⟨p, hpp⟩ : ∃ p : Nat, p = a + 1 := ⟨_, rfl⟩
  have hw : IntKind.i64.wrap ((a : Int) + 1) = (p : Int) := by rw [IntKind.wrap_i64]; omega
  have hpl : p ≤ s.size := by omega
  have hadv : (⟨p, m.sc.pl, m.sc.e⟩ : Sc) = m.sc.adv := by rw [hpp, ha]; rfl
  have HADV := Lib.hid hadv
  have HA := Lib.hid ha
  have HPP := Lib.hid hpp
  have HP := Lib.hid hp
  have HE := Lib.hid he
  have HRR := Lib.hid hR
  have HL := Lib.hid hL
  have hl0 : e.lv.rows.length ≤ 1000 := by omega
  have hl1 : e.lv.row.length ≤ 1000 := by omega
  clear hadv ha hpp hp he hbe hL hR
  go_enter Tryd.func23, Tryd.ntmps23
  go_wp2
  go_quiet (fail)
  have h2 := HRR.out.drewN nq
  have h3 := h2.at_ p hpl
  rw [HADV.out] at h3
  have hf3 := (fr_drewN' w.heap.size R w nq).trans ((fr_set (w.drewN nq) R 1 (.int .i64 (p : Int))).mono (Nat.le_refl _))
  have hL3 := HL.out.fr hf3
  have hb3 : Below base w0 ((w.drewN nq).setCell ⟨R, 1, none⟩ (.int .i64 (p : Int))) := hbel.trans (hf3.below hbs hbR)
  have hs3 : base ≤ ((w.drewN nq).setCell ⟨R, 1, none⟩ (.int .i64 (p : Int))).heap.size := Nat.le_trans hbs hf3.size
  obtain ⟨d0, d1, d2, d3, d4⟩ := h2.cells
  obtain ⟨f0, f1, f2, f3, f4⟩ := h2.froz
  rw [← HA.out] at d1
  have HR3 := Lib.hid h3
  have HL3 := Lib.hid hL3
  have HB3 := Lib.hid hb3
  clear c0 c1 c2 c3 c4 h2 h3 hf3 hL3 hb3
  generalize w.drewN nq = w1 at *
  go_wp2_with fail
  clear d0 d1 d2 d3 d4 f0 f1 f2 f3 f4
  generalize w1.setCell ⟨R, 1, none⟩ (.int .i64 (p : Int)) = w2 at *
  have hX := brace_any R s lv m.sc.adv w2 base own pre e (a : Int) (Nat.succ_le_succ (Nat.zero_le _)) HR3.out HL3.out hs3 hbR hl1 (by rw [HE.out]; exact hr)
  refine hX.mono ?_
  rintro x w4 ⟨rfl, own', e', h5, h4, hL4, hb4⟩
  clear hX
  go_wp2
  go_end0
  refine ⟨rfl, ⟨lv, own', pre, e', h4, hL4, by rw [h5, HE.out], HP.out⟩, HB3.out.trans hb4, hbR, Nat.le_trans hs3 hb4.size⟩
set_option maxHeartbeats 2000000 in
theorem step_46 (hg : goes s m.sc) (hb : Bd m) (h : MI w0 w base R s m) (hc : gb s m.sc.at_ = 46) : Calls Tryd.prog 23 #[.pointer (some ⟨R, 0, none⟩)] w fun x w' => x = .returned (.tuple #[]) ∧ MI w0 w' base R s (stepM s m) := by
  have hst : stepM s m = ⟨m.sc.adv, m.top.put (setN (inR 0 255)), m.rest⟩ := by simp [stepM, hc, Mc.put]
  rw [hst]
  clear hst
  obtain ⟨⟨lv, own, pre, e, hR, hL, he, hp⟩, hbel, hbR, hbs⟩ := h
  have hat := hg.2
  have he0 := hg.1
  have hsz := hR.hsz
  have hbe := hb m.top (List.mem_cons_self ..)
  rw [← he] at hbe
  obtain ⟨c0, c1, c2, c3, c4⟩ := hR.cells
  have hidx := fun W => idx_run s m.sc.at_ hg.2 W
  rw [hc] at hidx
  obtain ⟨a, ha⟩ : ∃ a, a = m.sc.at_ := ⟨_, rfl⟩
  rw [← ha] at hidx c1
  obtain ⟨p, hpp⟩ : ∃ p : Nat, p = a + 1 := ⟨_, rfl⟩
  have hw : IntKind.i64.wrap ((a : Int) + 1) = (p : Int) := by rw [IntKind.wrap_i64]; omega
  have hpl : p ≤ s.size := by omega
  have hadv : (⟨p, m.sc.pl, m.sc.e⟩ : Sc) = m.sc.adv := by rw [hpp, ha]; rfl
  have HADV := Lib.hid hadv
  have HA := Lib.hid ha
  have HPP := Lib.hid hpp
  have HP := Lib.hid hp
  have HE := Lib.hid he
  have HRR := Lib.hid hR
  have HL := Lib.hid hL
  have hl0 : e.lv.rows.length ≤ 1000 := by omega
  have hl1 : e.lv.row.length ≤ 1000 := by omega
  clear hadv ha hpp hp he hbe hL hR
  go_enter Tryd.func23, Tryd.ntmps23
  go_wp2
  go_quiet (fail)
  have h2 := HRR.out.drewN nq
  have h3 := h2.at_ p hpl
  rw [HADV.out] at h3
  have hf3 := (fr_drewN' w.heap.size R w nq).trans ((fr_set (w.drewN nq) R 1 (.int .i64 (p : Int))).mono (Nat.le_refl _))
  have hL3 := HL.out.fr hf3
  have hb3 : Below base w0 ((w.drewN nq).setCell ⟨R, 1, none⟩ (.int .i64 (p : Int))) := hbel.trans (hf3.below hbs hbR)
  have hs3 : base ≤ ((w.drewN nq).setCell ⟨R, 1, none⟩ (.int .i64 (p : Int))).heap.size := Nat.le_trans hbs hf3.size
  obtain ⟨d0, d1, d2, d3, d4⟩ := h2.cells
  obtain ⟨f0, f1, f2, f3, f4⟩ := h2.froz
  rw [← HA.out] at d1
  have HR3 := Lib.hid h3
  have HL3 := Lib.hid hL3
  have HB3 := Lib.hid hb3
  clear c0 c1 c2 c3 c4 h2 h3 hf3 hL3 hb3
  generalize w.drewN nq = w1 at *
  go_wp2_with fail
  clear d0 d1 d2 d3 d4 f0 f1 f2 f3 f4
  generalize w1.setCell ⟨R, 1, none⟩ (.int .i64 (p : Int)) = w2 at *
  refine (range_v 0 255 (by omega) (by omega) (by omega) (by omega) w2).mono ?_
  rintro x w5 ⟨rfl, b5⟩
  have h5 := HR3.out.below b5
  have hL5 := HL3.out.fr (Fr.of_below b5 (Nat.le_refl _) : Fr w2.heap.size R w2 w5)
  have hb5 : Below base w0 w5 := HB3.out.trans (b5.mono hs3)
  have hs5 := Nat.le_trans hs3 b5.size
  have hX := put_leaf base R s w5 lv m.sc.adv own pre e (inR 0 255) h5 hL5 hs5 hbR hl1
  go_wp2_with fail
  refine hX.mono ?_
  rintro x w6 ⟨rfl, own', e', h6, h7, hL7, hb7⟩
  clear hX
  go_wp2
  go_end0
  refine ⟨rfl, ⟨lv, own', pre, e', h7, hL7, by rw [h6, HE.out], HP.out⟩, hb5.trans hb7, hbR, Nat.le_trans hs5 hb7.size⟩
set_option maxHeartbeats 2000000 in
theorem step_91 (hg : goes s m.sc) (hb : Bd m) (h : MI w0 w base R s m) (hc : gb s m.sc.at_ = 91) : Calls Tryd.prog 23 #[.pointer (some ⟨R, 0, none⟩)] w fun x w' => x = .returned (.tuple #[]) ∧ MI w0 w' base R s (stepM s m) := by
  have hst : stepM s m = ⟨(setS s m.sc.adv).2, m.top.put (setN (setS s m.sc.adv).1), m.rest⟩ := by simp [stepM, hc]
  rw [hst]
  clear hst
  obtain ⟨⟨lv, own, pre, e, hR, hL, he, hp⟩, hbel, hbR, hbs⟩ := h
  have hat := hg.2
  have he0 := hg.1
  have hsz := hR.hsz
  have hbe := hb m.top (List.mem_cons_self ..)
  rw [← he] at hbe
  obtain ⟨c0, c1, c2, c3, c4⟩ := hR.cells
  have hidx := fun W => idx_run s m.sc.at_ hg.2 W
  rw [hc] at hidx
  have hY := fun w2 h => set_any R s lv m.sc.adv w2 he0 h
  obtain ⟨d, hd⟩ : ∃ d, d = setS s m.sc.adv := ⟨_, rfl⟩
  rw [← hd] at hY ⊢
  obtain ⟨f, st5⟩ := d
  dsimp only at hY ⊢
  clear hd
  obtain ⟨a, ha⟩ : ∃ a, a = m.sc.at_ := ⟨_, rfl⟩
  rw [← ha] at hidx c1
  obtain ⟨p, hpp⟩ : ∃ p : Nat, p = a + 1 := ⟨_, rfl⟩
  have hw : IntKind.i64.wrap ((a : Int) + 1) = (p : Int) := by rw [IntKind.wrap_i64]; omega
  have hpl : p ≤ s.size := by omega
  have hadv : (⟨p, m.sc.pl, m.sc.e⟩ : Sc) = m.sc.adv := by rw [hpp, ha]; rfl
  have HADV := Lib.hid hadv
  have HA := Lib.hid ha
  have HPP := Lib.hid hpp
  have HP := Lib.hid hp
  have HE := Lib.hid he
  have HRR := Lib.hid hR
  have HL := Lib.hid hL
  have hl0 : e.lv.rows.length ≤ 1000 := by omega
  have hl1 : e.lv.row.length ≤ 1000 := by omega
  clear hadv ha hpp hp he hbe hL hR
  go_enter Tryd.func23, Tryd.ntmps23
  go_wp2
  go_quiet (fail)
  have h2 := HRR.out.drewN nq
  have h3 := h2.at_ p hpl
  rw [HADV.out] at h3
  have hf3 := (fr_drewN' w.heap.size R w nq).trans ((fr_set (w.drewN nq) R 1 (.int .i64 (p : Int))).mono (Nat.le_refl _))
  have hL3 := HL.out.fr hf3
  have hb3 : Below base w0 ((w.drewN nq).setCell ⟨R, 1, none⟩ (.int .i64 (p : Int))) := hbel.trans (hf3.below hbs hbR)
  have hs3 : base ≤ ((w.drewN nq).setCell ⟨R, 1, none⟩ (.int .i64 (p : Int))).heap.size := Nat.le_trans hbs hf3.size
  obtain ⟨d0, d1, d2, d3, d4⟩ := h2.cells
  obtain ⟨f0, f1, f2, f3, f4⟩ := h2.froz
  rw [← HA.out] at d1
  have HR3 := Lib.hid h3
  have HL3 := Lib.hid hL3
  have HB3 := Lib.hid hb3
  clear c0 c1 c2 c3 c4 h2 h3 hf3 hL3 hb3
  generalize w.drewN nq = w1 at *
  go_wp2_with fail
  clear d0 d1 d2 d3 d4 f0 f1 f2 f3 f4
  generalize w1.setCell ⟨R, 1, none⟩ (.int .i64 (p : Int)) = w2 at *
  refine (hY w2 HR3.out).mono ?_
  rintro x w5 ⟨rfl, h5, k5⟩
  have hL5 := HL3.out.fr k5
  have hb5 : Below base w0 w5 := HB3.out.trans (k5.below hs3 hbR)
  have hs5 := Nat.le_trans hs3 k5.size
  clear hY
  have hX := put_leaf base R s w5 lv st5 own pre e f h5 hL5 hs5 hbR hl1
  go_wp2_with fail
  refine hX.mono ?_
  rintro x w6 ⟨rfl, own', e', h6, h7, hL7, hb7⟩
  clear hX
  go_wp2
  go_end0
  refine ⟨rfl, ⟨lv, own', pre, e', h7, hL7, by rw [h6, HE.out], HP.out⟩, hb5.trans hb7, hbR, Nat.le_trans hs5 hb7.size⟩
end
end Go.Proofs.YtaohlmcgaggoeaaDoor.P
/- The machine's walks: step, the rest. Written by wip/gen_step.py. -/
namespace Go.Proofs.YtaohlmcgaggoeaaDoor.P
open Go.RowKit Go.Proofs.YtaohlmcgaggoeaaDoor Go.Proofs.YtaohlmcgaggoeaaDoorW.PrintWords Go.Proofs.YtaohlmcgaggoeaaDoorW.PrintLast Go.Proofs.YtaohlmcgaggoeaaDoorW.PrintMore
set_option linter.unusedVariables false
set_option linter.unusedSimpArgs false
attribute [local go_sem ↓] idxG appS
section
variable (w0 : World) (base R : Nat) (s : ByteArray) (m : Mc) (w : World)
set_option maxHeartbeats 2000000 in
theorem step_92 (hg : goes s m.sc) (hb : Bd m) (h : MI w0 w base R s m) (hc : gb s m.sc.at_ = 92) : Calls Tryd.prog 23 #[.pointer (some ⟨R, 0, none⟩)] w fun x w' => x = .returned (.tuple #[]) ∧ MI w0 w' base R s (stepM s m) := by
  have hst : stepM s m = ⟨(escapeS s m.sc.adv).2, m.top.put (setN (fun q => decide ((q : Int) = (escapeS s m.sc.adv).1))), m.rest⟩ := by simp [stepM, hc]
  rw [hst]
  clear hst
  obtain ⟨⟨lv, own, pre, e, hR, hL, he, hp⟩, hbel, hbR, hbs⟩ := h
  have hat := hg.2
  have he0 := hg.1
  have hsz := hR.hsz
  have hbe := hb m.top (List.mem_cons_self ..)
  rw [← he] at hbe
  obtain ⟨c0, c1, c2, c3, c4⟩ := hR.cells
  have hidx := fun W => idx_run s m.sc.at_ hg.2 W
  rw [hc] at hidx
  have hY := fun w2 h => escape_any R s lv m.sc.adv w2 he0 h
  have hv := escape_val (s := s) (st := m.sc.adv)
  obtain ⟨d, hd⟩ : ∃ d, d = escapeS s m.sc.adv := ⟨_, rfl⟩
  rw [← hd] at hY hv ⊢
  obtain ⟨c, st5⟩ := d
  dsimp only at hY hv ⊢
  clear hd
  obtain ⟨a, ha⟩ : ∃ a, a = m.sc.at_ := ⟨_, rfl⟩
  rw [← ha] at hidx c1
  obtain ⟨p, hpp⟩ : ∃ p : Nat, p = a + 1 := ⟨_, rfl⟩
  have hw : IntKind.i64.wrap ((a : Int) + 1) = (p : Int) := by rw [IntKind.wrap_i64]; omega
  have hpl : p ≤ s.size := by omega
  have hadv : (⟨p, m.sc.pl, m.sc.e⟩ : Sc) = m.sc.adv := by rw [hpp, ha]; rfl
  have HADV := Lib.hid hadv
  have HA := Lib.hid ha
  have HPP := Lib.hid hpp
  have HP := Lib.hid hp
  have HE := Lib.hid he
  have HRR := Lib.hid hR
  have HL := Lib.hid hL
  have hl0 : e.lv.rows.length ≤ 1000 := by omega
  have hl1 : e.lv.row.length ≤ 1000 := by omega
  clear hadv ha hpp hp he hbe hL hR
  go_enter Tryd.func23, Tryd.ntmps23
  go_wp2
  go_quiet (fail)
  have h2 := HRR.out.drewN nq
  have h3 := h2.at_ p hpl
  rw [HADV.out] at h3
  have hf3 := (fr_drewN' w.heap.size R w nq).trans ((fr_set (w.drewN nq) R 1 (.int .i64 (p : Int))).mono (Nat.le_refl _))
  have hL3 := HL.out.fr hf3
  have hb3 : Below base w0 ((w.drewN nq).setCell ⟨R, 1, none⟩ (.int .i64 (p : Int))) := hbel.trans (hf3.below hbs hbR)
  have hs3 : base ≤ ((w.drewN nq).setCell ⟨R, 1, none⟩ (.int .i64 (p : Int))).heap.size := Nat.le_trans hbs hf3.size
  obtain ⟨d0, d1, d2, d3, d4⟩ := h2.cells
  obtain ⟨f0, f1, f2, f3, f4⟩ := h2.froz
  rw [← HA.out] at d1
  have HR3 := Lib.hid h3
  have HL3 := Lib.hid hL3
  have HB3 := Lib.hid hb3
  clear c0 c1 c2 c3 c4 h2 h3 hf3 hL3 hb3
  generalize w.drewN nq = w1 at *
  go_wp2_with fail
  clear d0 d1 d2 d3 d4 f0 f1 f2 f3 f4
  generalize w1.setCell ⟨R, 1, none⟩ (.int .i64 (p : Int)) = w2 at *
  refine (hY w2 HR3.out).mono ?_
  rintro x w4 ⟨rfl, h4, k4⟩
  have hL4 := HL3.out.fr k4
  have hb4 : Below base w0 w4 := HB3.out.trans (k4.below hs3 hbR)
  have hs4 := Nat.le_trans hs3 k4.size
  clear hY
  go_wp2_with fail
  refine (of_one c hv.1 hv.2 w4).mono ?_
  rintro x w5 ⟨rfl, b5⟩
  have h5 := h4.below b5
  have hL5 := hL4.fr (Fr.of_below b5 (Nat.le_refl _) : Fr w4.heap.size R w4 w5)
  have hb5 : Below base w0 w5 := hb4.trans (b5.mono hs4)
  have hs5 := Nat.le_trans hs4 b5.size
  have hX := put_leaf base R s w5 lv st5 own pre e (fun q => decide ((q : Int) = c)) h5 hL5 hs5 hbR hl1
  go_wp2_with fail
  refine hX.mono ?_
  rintro x w6 ⟨rfl, own', e', h6, h7, hL7, hb7⟩
  clear hX
  go_wp2
  go_end0
  refine ⟨rfl, ⟨lv, own', pre, e', h7, hL7, by rw [h6, HE.out], HP.out⟩, hb5.trans hb7, hbR, Nat.le_trans hs5 hb7.size⟩
set_option maxHeartbeats 2000000 in
theorem step_93 (hg : goes s m.sc) (hb : Bd m) (h : MI w0 w base R s m) (hc : gb s m.sc.at_ = 93) : Calls Tryd.prog 23 #[.pointer (some ⟨R, 0, none⟩)] w fun x w' => x = .returned (.tuple #[]) ∧ MI w0 w' base R s (stepM s m) := by
  have hst : stepM s m = ⟨m.sc.adv.fail m.sc.at_ 2, m.top, m.rest⟩ := by simp [stepM, hc]
  rw [hst]
  clear hst
  obtain ⟨⟨lv, own, pre, e, hR, hL, he, hp⟩, hbel, hbR, hbs⟩ := h
  have hat := hg.2
  have he0 := hg.1
  have hsz := hR.hsz
  have hbe := hb m.top (List.mem_cons_self ..)
  rw [← he] at hbe
  obtain ⟨c0, c1, c2, c3, c4⟩ := hR.cells
  have hidx := fun W => idx_run s m.sc.at_ hg.2 W
  rw [hc] at hidx
  obtain ⟨a, ha⟩ : ∃ a, a = m.sc.at_ := ⟨_, rfl⟩
  rw [← ha] at hidx c1
  obtain ⟨p, hpp⟩ : ∃ p : Nat, p = a + 1 := ⟨_, rfl⟩
  have hw : IntKind.i64.wrap ((a : Int) + 1) = (p : Int) := by rw [IntKind.wrap_i64]; omega
  have hpl : p ≤ s.size := by omega
  have hadv : (⟨p, m.sc.pl, m.sc.e⟩ : Sc) = m.sc.adv := by rw [hpp, ha]; rfl
  have HADV := Lib.hid hadv
  have HA := Lib.hid ha
  have HPP := Lib.hid hpp
  have HP := Lib.hid hp
  have HE := Lib.hid he
  have HRR := Lib.hid hR
  have HL := Lib.hid hL
  have hl0 : e.lv.rows.length ≤ 1000 := by omega
  have hl1 : e.lv.row.length ≤ 1000 := by omega
  clear hadv ha hpp hp he hbe hL hR
  go_enter Tryd.func23, Tryd.ntmps23
  go_wp2
  go_quiet (fail)
  have h2 := HRR.out.drewN nq
  have h3 := h2.at_ p hpl
  rw [HADV.out] at h3
  have hf3 := (fr_drewN' w.heap.size R w nq).trans ((fr_set (w.drewN nq) R 1 (.int .i64 (p : Int))).mono (Nat.le_refl _))
  have hL3 := HL.out.fr hf3
  have hb3 : Below base w0 ((w.drewN nq).setCell ⟨R, 1, none⟩ (.int .i64 (p : Int))) := hbel.trans (hf3.below hbs hbR)
  have hs3 : base ≤ ((w.drewN nq).setCell ⟨R, 1, none⟩ (.int .i64 (p : Int))).heap.size := Nat.le_trans hbs hf3.size
  obtain ⟨d0, d1, d2, d3, d4⟩ := h2.cells
  obtain ⟨f0, f1, f2, f3, f4⟩ := h2.froz
  rw [← HA.out] at d1
  have HR3 := Lib.hid h3
  have HL3 := Lib.hid hL3
  have HB3 := Lib.hid hb3
  clear c0 c1 c2 c3 c4 h2 h3 hf3 hL3 hb3
  generalize w.drewN nq = w1 at *
  go_wp2_with fail
  clear d0 d1 d2 d3 d4 f0 f1 f2 f3 f4
  generalize w1.setCell ⟨R, 1, none⟩ (.int .i64 (p : Int)) = w2 at *
  refine (fail_any R s lv m.sc.adv w2 (a : Int) 2 HR3.out).mono ?_
  rintro x w4 ⟨rfl, h4, k4⟩
  have hL4 := HL3.out.fr k4
  have hb4 : Below base w0 w4 := HB3.out.trans (k4.below hs3 hbR)
  go_wp2
  go_end0
  refine ⟨rfl, ⟨lv, own, pre, e, by rw [← HA.out]; exact h4, hL4, HE.out, HP.out⟩, hb4, hbR, Nat.le_trans hs3 k4.size⟩
set_option maxHeartbeats 2000000 in
theorem step_125 (hg : goes s m.sc) (hb : Bd m) (h : MI w0 w base R s m) (hc : gb s m.sc.at_ = 125) : Calls Tryd.prog 23 #[.pointer (some ⟨R, 0, none⟩)] w fun x w' => x = .returned (.tuple #[]) ∧ MI w0 w' base R s (stepM s m) := by
  have hst : stepM s m = ⟨m.sc.adv.fail m.sc.at_ 2, m.top, m.rest⟩ := by simp [stepM, hc]
  rw [hst]
  clear hst
  obtain ⟨⟨lv, own, pre, e, hR, hL, he, hp⟩, hbel, hbR, hbs⟩ := h
  have hat := hg.2
  have he0 := hg.1
  have hsz := hR.hsz
  have hbe := hb m.top (List.mem_cons_self ..)
  rw [← he] at hbe
  obtain ⟨c0, c1, c2, c3, c4⟩ := hR.cells
  have hidx := fun W => idx_run s m.sc.at_ hg.2 W
  rw [hc] at hidx
  obtain ⟨a, ha⟩ : ∃ a, a = m.sc.at_ := ⟨_, rfl⟩
  rw [← ha] at hidx c1
  obtain ⟨p, hpp⟩ : ∃ p : Nat, p = a + 1 := ⟨_, rfl⟩
  have hw : IntKind.i64.wrap ((a : Int) + 1) = (p : Int) := by rw [IntKind.wrap_i64]; omega
  have hpl : p ≤ s.size := by omega
  have hadv : (⟨p, m.sc.pl, m.sc.e⟩ : Sc) = m.sc.adv := by rw [hpp, ha]; rfl
  have HADV := Lib.hid hadv
  have HA := Lib.hid ha
  have HPP := Lib.hid hpp
  have HP := Lib.hid hp
  have HE := Lib.hid he
  have HRR := Lib.hid hR
  have HL := Lib.hid hL
  have hl0 : e.lv.rows.length ≤ 1000 := by omega
  have hl1 : e.lv.row.length ≤ 1000 := by omega
  clear hadv ha hpp hp he hbe hL hR
  go_enter Tryd.func23, Tryd.ntmps23
  go_wp2
  go_quiet (fail)
  have h2 := HRR.out.drewN nq
  have h3 := h2.at_ p hpl
  rw [HADV.out] at h3
  have hf3 := (fr_drewN' w.heap.size R w nq).trans ((fr_set (w.drewN nq) R 1 (.int .i64 (p : Int))).mono (Nat.le_refl _))
  have hL3 := HL.out.fr hf3
  have hb3 : Below base w0 ((w.drewN nq).setCell ⟨R, 1, none⟩ (.int .i64 (p : Int))) := hbel.trans (hf3.below hbs hbR)
  have hs3 : base ≤ ((w.drewN nq).setCell ⟨R, 1, none⟩ (.int .i64 (p : Int))).heap.size := Nat.le_trans hbs hf3.size
  obtain ⟨d0, d1, d2, d3, d4⟩ := h2.cells
  obtain ⟨f0, f1, f2, f3, f4⟩ := h2.froz
  rw [← HA.out] at d1
  have HR3 := Lib.hid h3
  have HL3 := Lib.hid hL3
  have HB3 := Lib.hid hb3
  clear c0 c1 c2 c3 c4 h2 h3 hf3 hL3 hb3
  generalize w.drewN nq = w1 at *
  go_wp2_with fail
  clear d0 d1 d2 d3 d4 f0 f1 f2 f3 f4
  generalize w1.setCell ⟨R, 1, none⟩ (.int .i64 (p : Int)) = w2 at *
  refine (fail_any R s lv m.sc.adv w2 (a : Int) 2 HR3.out).mono ?_
  rintro x w4 ⟨rfl, h4, k4⟩
  have hL4 := HL3.out.fr k4
  have hb4 : Below base w0 w4 := HB3.out.trans (k4.below hs3 hbR)
  go_wp2
  go_end0
  refine ⟨rfl, ⟨lv, own, pre, e, by rw [← HA.out]; exact h4, hL4, HE.out, HP.out⟩, hb4, hbR, Nat.le_trans hs3 k4.size⟩
set_option maxHeartbeats 2000000 in
theorem step_else (hg : goes s m.sc) (hb : Bd m) (h : MI w0 w base R s m) (hc : gb s m.sc.at_ ≠ 40 ∧ gb s m.sc.at_ ≠ 41 ∧ gb s m.sc.at_ ≠ 124 ∧ gb s m.sc.at_ ≠ 42 ∧ gb s m.sc.at_ ≠ 43 ∧ gb s m.sc.at_ ≠ 63 ∧ gb s m.sc.at_ ≠ 123 ∧ gb s m.sc.at_ ≠ 46 ∧ gb s m.sc.at_ ≠ 91 ∧ gb s m.sc.at_ ≠ 92 ∧ gb s m.sc.at_ ≠ 93 ∧ gb s m.sc.at_ ≠ 125) : Calls Tryd.prog 23 #[.pointer (some ⟨R, 0, none⟩)] w fun x w' => x = .returned (.tuple #[]) ∧ MI w0 w' base R s (stepM s m) := by
  have hst : stepM s m = ⟨m.sc.adv, m.top.put (setN (fun q => decide ((q : Int) = gb s m.sc.at_))), m.rest⟩ := by obtain ⟨n40, n41, n124, n42, n43, n63, n123, n46, n91, n92, n93, n125⟩ := hc; simp [stepM, Mc.put, n40, n41, n124, n42, n43, n63, n123, n46, n91, n92, n93, n125]
  rw [hst]
  clear hst
  obtain ⟨⟨lv, own, pre, e, hR, hL, he, hp⟩, hbel, hbR, hbs⟩ := h
  have hat := hg.2
  have he0 := hg.1
  have hsz := hR.hsz
  have hbe := hb m.top (List.mem_cons_self ..)
  rw [← he] at hbe
  obtain ⟨c0, c1, c2, c3, c4⟩ := hR.cells
  have hidx := fun W => idx_run s m.sc.at_ hg.2 W
  have hv := gb_range s m.sc.at_
  obtain ⟨c, hcc⟩ : ∃ c, c = gb s m.sc.at_ := ⟨_, rfl⟩
  rw [← hcc] at hidx hv hc ⊢
  obtain ⟨n40, n41, n124, n42, n43, n63, n123, n46, n91, n92, n93, n125⟩ := hc
  clear hcc
  have b40 : (c == 40) = false := by simp [n40]
  have b41 : (c == 41) = false := by simp [n41]
  have b124 : (c == 124) = false := by simp [n124]
  have b42 : (c == 42) = false := by simp [n42]
  have b43 : (c == 43) = false := by simp [n43]
  have b63 : (c == 63) = false := by simp [n63]
  have b123 : (c == 123) = false := by simp [n123]
  have b46 : (c == 46) = false := by simp [n46]
  have b91 : (c == 91) = false := by simp [n91]
  have b92 : (c == 92) = false := by simp [n92]
  have b93 : (c == 93) = false := by simp [n93]
  have b125 : (c == 125) = false := by simp [n125]
  clear n40 n41 n124 n42 n43 n63 n123 n46 n91 n92 n93 n125
  obtain ⟨a, ha⟩ : ∃ a, a = m.sc.at_ := ⟨_, rfl⟩
  rw [← ha] at hidx c1
  obtain ⟨p, hpp⟩ : ∃ p : Nat, p = a + 1 := ⟨_, rfl⟩
  have hw : IntKind.i64.wrap ((a : Int) + 1) = (p : Int) := by rw [IntKind.wrap_i64]; omega
  have hpl : p ≤ s.size := by omega
  have hadv : (⟨p, m.sc.pl, m.sc.e⟩ : Sc) = m.sc.adv := by rw [hpp, ha]; rfl
  have HADV := Lib.hid hadv
  have HA := Lib.hid ha
  have HPP := Lib.hid hpp
  have HP := Lib.hid hp
  have HE := Lib.hid he
  have HRR := Lib.hid hR
  have HL := Lib.hid hL
  have hl0 : e.lv.rows.length ≤ 1000 := by omega
  have hl1 : e.lv.row.length ≤ 1000 := by omega
  clear hadv ha hpp hp he hbe hL hR
  go_enter Tryd.func23, Tryd.ntmps23
  go_wp2
  go_quiet (fail)
  have h2 := HRR.out.drewN nq
  have h3 := h2.at_ p hpl
  rw [HADV.out] at h3
  have hf3 := (fr_drewN' w.heap.size R w nq).trans ((fr_set (w.drewN nq) R 1 (.int .i64 (p : Int))).mono (Nat.le_refl _))
  have hL3 := HL.out.fr hf3
  have hb3 : Below base w0 ((w.drewN nq).setCell ⟨R, 1, none⟩ (.int .i64 (p : Int))) := hbel.trans (hf3.below hbs hbR)
  have hs3 : base ≤ ((w.drewN nq).setCell ⟨R, 1, none⟩ (.int .i64 (p : Int))).heap.size := Nat.le_trans hbs hf3.size
  obtain ⟨d0, d1, d2, d3, d4⟩ := h2.cells
  obtain ⟨f0, f1, f2, f3, f4⟩ := h2.froz
  rw [← HA.out] at d1
  have HR3 := Lib.hid h3
  have HL3 := Lib.hid hL3
  have HB3 := Lib.hid hb3
  clear c0 c1 c2 c3 c4 h2 h3 hf3 hL3 hb3
  generalize w.drewN nq = w1 at *
  go_upto_region 2 with fail
  clear d0 d1 d2 d3 d4 f0 f1 f2 f3 f4 hidx hw
  generalize w1.setCell ⟨R, 1, none⟩ (.int .i64 (p : Int)) = w2 at *
  go_upto_region 4 with fail
  go_upto_region 6 with fail
  go_upto_region 8 with fail
  go_upto_region 10 with fail
  go_upto_region 12 with fail
  go_upto_region 14 with fail
  go_upto_region 16 with fail
  go_upto_region 18 with fail
  go_upto_region 20 with fail
  go_upto_region 22 with fail
  go_upto_region 24 with fail
  go_upto_region 25 with fail
  go_upto_region 3 with fail
  clear b40 b41 b124 b42 b43 b63 b123 b46 b91 b92 b93 b125
  go_wp2_with fail
  refine (of_one c hv.1 hv.2 w2).mono ?_
  rintro x w5 ⟨rfl, b5⟩
  have h5 := HR3.out.below b5
  have hL5 := HL3.out.fr (Fr.of_below b5 (Nat.le_refl _) : Fr w2.heap.size R w2 w5)
  have hb5 : Below base w0 w5 := HB3.out.trans (b5.mono hs3)
  have hs5 := Nat.le_trans hs3 b5.size
  have hX := put_leaf base R s w5 lv m.sc.adv own pre e (fun q => decide ((q : Int) = c)) h5 hL5 hs5 hbR hl1
  go_wp2_with fail
  refine hX.mono ?_
  rintro x w6 ⟨rfl, own', e', h6, h7, hL7, hb7⟩
  clear hX
  go_wp2
  go_end0
  refine ⟨rfl, ⟨lv, own', pre, e', h7, hL7, by rw [h6, HE.out], HP.out⟩, hb5.trans hb7, hbR, Nat.le_trans hs5 hb7.size⟩
end
end Go.Proofs.YtaohlmcgaggoeaaDoor.P
/- The machine's walks: step, an opening bracket; all signs together. -/
namespace Go.Proofs.YtaohlmcgaggoeaaDoor.P
open Go.RowKit Go.Proofs.YtaohlmcgaggoeaaDoor Go.Proofs.YtaohlmcgaggoeaaDoorW.PrintWords Go.Proofs.YtaohlmcgaggoeaaDoorW.PrintLast Go.Proofs.YtaohlmcgaggoeaaDoorW.PrintMore
set_option linter.unusedVariables false
set_option linter.unusedSimpArgs false
attribute [local go_sem ↓] idxG appS
theorem app_level (W : World) (base : Nat) (v : Value) (qs : List LvE) (hrow : W.ownsRow base 53 2 v qs.length (lcs qs)) (hbase : base ≤ W.heap.size) (hl : qs.length ≤ 100000) :
    ∃ g c w', (AppS #[45, 45] 45 #[v, .slice (some ⟨W.heap.size, 0, none⟩) 1 1]).run Tryd.prog (W.alloc (.cells #[.slice none 0 0, .slice none 0 0] 53)) = .ok (.slice (some ⟨g, 0, none⟩) (qs.length + 1) c) w' ∧
      w'.ownsRow base 53 2 (.slice (some ⟨g, 0, none⟩) (qs.length + 1) c) (qs.length + 1) (lcs qs ++ [.slice none 0 0, .slice none 0 0]) ∧ (W.alloc (.cells #[.slice none 0 0, .slice none 0 0] 53)).grownBy w' v.ownBlock ∧
      (v.ownBlock = some g ∨ (W.alloc (.cells #[.slice none 0 0, .slice none 0 0] 53)).heap.size ≤ g) := by
  obtain ⟨i0, hi, hz0, hz1, hz2⟩ := info_parts infoL
  obtain ⟨W1, hW1⟩ : ∃ W1, W1 = W.alloc (.cells #[.slice none 0 0, .slice none 0 0] 53) := ⟨_, rfl⟩
  have hb : W1.heap[W.heap.size]? = some (.cells #[.slice none 0 0, .slice none 0 0] 53 (0, 0)) := by rw [hW1]; exact heap_alloc_new W _
  have hrow1 : W1.ownsRow base 53 2 v qs.length (lcs qs) := by rw [hW1]; exact World.ownsRow.alloc hrow _
  have hsz : W1.heap.size = W.heap.size + 1 := by rw [hW1]; simp
  rw [← hW1]
  obtain ⟨v', w', hr, h2, h3, _, h4⟩ := run_append_own_at (P := Tryd.prog) W1 base 45 45 53 i0 _ 2 48 Tryd.underlying45 hi hz0 hz1 hz2 rfl (by omega) v qs.length (lcs qs) hrow1 ⟨W.heap.size, 0, none⟩ 1 1 [.slice none 0 0, .slice none 0 0] rfl
    (fun j x hx => by
      rw [Addr.add_lit, Nat.zero_add]
      rw [blk_cell hb j]
      simpa using hx) (by decide) (by unfold maxLen; omega) (by omega) (by omega)
  obtain ⟨g', cap', rfl⟩ := ownsRow_succ h2
  refine ⟨g', cap', w', hr, h2, h3, ?_⟩
  rcases h4 with h | h
  · left; rw [← h]; rfl
  · right
    have : g' = W1.heap.size := by
      have h5 : (Value.slice (some ⟨g', 0, none⟩) (qs.length + 1) cap').ownBlock = some g' := rfl
      rw [h5] at h
      injection h
    omega
section
variable (w0 : World) (base R : Nat) (s : ByteArray) (m : Mc) (w : World)
set_option maxHeartbeats 2000000 in
theorem step_40 (hg : goes s m.sc) (hb : Bd m) (hlen : m.rest.length ≤ 1000) (h : MI w0 w base R s m) (hc : gb s m.sc.at_ = 40) : Calls Tryd.prog 23 #[.pointer (some ⟨R, 0, none⟩)] w fun x w' => x = .returned (.tuple #[]) ∧ MI w0 w' base R s (stepM s m) := by
  have hst : stepM s m = ⟨m.sc.adv, ⟨[], []⟩, m.top :: m.rest⟩ := by simp [stepM, hc]
  rw [hst]
  clear hst
  obtain ⟨⟨lv, own, pre, e, hR, hL, he, hp⟩, hbel, hbR, hbs⟩ := h
  have hat := hg.2
  have he0 := hg.1
  have hsz := hR.hsz
  have hbe := hb m.top (List.mem_cons_self ..)
  rw [← he] at hbe
  obtain ⟨c0, c1, c2, c3, c4⟩ := hR.cells
  have hidx := fun W => idx_run s m.sc.at_ hg.2 W
  rw [hc] at hidx
  obtain ⟨a, ha⟩ : ∃ a, a = m.sc.at_ := ⟨_, rfl⟩
  rw [← ha] at hidx c1
  obtain ⟨p, hpp⟩ : ∃ p : Nat, p = a + 1 := ⟨_, rfl⟩
  have hw : IntKind.i64.wrap ((a : Int) + 1) = (p : Int) := by rw [IntKind.wrap_i64]; omega
  have hpl : p ≤ s.size := by omega
  have hadv : (⟨p, m.sc.pl, m.sc.e⟩ : Sc) = m.sc.adv := by rw [hpp, ha]; rfl
  have HADV := Lib.hid hadv
  have HA := Lib.hid ha
  have HPP := Lib.hid hpp
  have HP := Lib.hid hp
  have HE := Lib.hid he
  have HRR := Lib.hid hR
  have HL := Lib.hid hL
  have hl0 : e.lv.rows.length ≤ 1000 := by omega
  have hl1 : e.lv.row.length ≤ 1000 := by omega
  clear hadv ha hpp hp he hbe hL hR
  go_enter Tryd.func23, Tryd.ntmps23
  go_wp2
  go_quiet (fail)
  have h2 := HRR.out.drewN nq
  have h3 := h2.at_ p hpl
  rw [HADV.out] at h3
  have hf3 := (fr_drewN' w.heap.size R w nq).trans ((fr_set (w.drewN nq) R 1 (.int .i64 (p : Int))).mono (Nat.le_refl _))
  have hL3 := HL.out.fr hf3
  have hb3 : Below base w0 ((w.drewN nq).setCell ⟨R, 1, none⟩ (.int .i64 (p : Int))) := hbel.trans (hf3.below hbs hbR)
  have hs3 : base ≤ ((w.drewN nq).setCell ⟨R, 1, none⟩ (.int .i64 (p : Int))).heap.size := Nat.le_trans hbs hf3.size
  obtain ⟨d0, d1, d2, d3, d4⟩ := h2.cells
  obtain ⟨f0, f1, f2, f3, f4⟩ := h2.froz
  rw [← HA.out] at d1
  have HR3 := Lib.hid h3
  have HL3 := Lib.hid hL3
  have HB3 := Lib.hid hb3
  clear c0 c1 c2 c3 c4 h2 h3 hf3 hL3 hb3
  generalize w.drewN nq = w1 at *
  -- the append
  obtain ⟨L, cap, hlv, hL1, hL2, hL3', hL4, hL5, l0, l1, fl0, fl1⟩ := HL3.out.cells
  have hql : (pre ++ [e]).length ≤ 100000 := by
    have h1 := congrArg List.length HP.out
    rw [List.length_map, List.length_reverse] at h1
    simp; omega
  obtain ⟨w2, hw2⟩ : ∃ w2, w2 = w1.setCell ⟨R, 1, none⟩ (.int .i64 (p : Int)) := ⟨_, rfl⟩
  rw [← hw2] at HR3 HL3 HB3 hs3 hL2
  obtain ⟨g, cg, w9, hrun, hrow9, hgr9, hat9⟩ := app_level w2 base lv (pre ++ [e]) HL3.out.row hs3 hql
  obtain ⟨⟨own', hL9⟩, hR9⟩ := HL3.out.push HR3.out.lt (box_belowS w2 _) hgr9 hat9 hrow9
  have hRd9 := HR3.out.keep hR9
  have hb9 : Below base w0 w9 := HB3.out.trans (((Below.refl _ _).alloc hs3 _).grown hgr9 (by simp; omega) (fun k hk => (HL3.out.row.lt k hk).1))
  obtain ⟨k0, k1, k2, k3, k4⟩ := hRd9.cells
  obtain ⟨j0, j1, j2, j3, j4⟩ := hRd9.froz
  have hf9 := fr_set w9 R 2 (.slice (some ⟨g, 0, none⟩) ((pre ++ [e]).length + 1) cg)
  have hs9 : base ≤ w9.heap.size := Nat.le_trans hs3 (Nat.le_trans (by simp) hgr9.size)
  have hfin : MI w0 (w9.setCell ⟨R, 2, none⟩ (.slice (some ⟨g, 0, none⟩) ((pre ++ [e]).length + 1) cg)) base R s ⟨m.sc.adv, ⟨[], []⟩, m.top :: m.rest⟩ :=
    ⟨⟨_, own', pre ++ [e], ⟨.slice none 0 0, .slice none 0 0, ⟨[], []⟩, [], []⟩, hRd9.lev _, hL9.fr hf9, rfl, by rw [List.map_append, HP.out, List.reverse_cons]; show _ ++ [e.lv] = _; rw [HE.out]⟩,
      hb9.trans (hf9.below hs9 hbR), hbR, Nat.le_trans hs9 hf9.size⟩
  obtain ⟨ql, hq⟩ : ∃ ql, ql = (pre ++ [e]).length := ⟨_, rfl⟩
  rw [← hq] at hrun hfin
  have HFIN := Lib.hid hfin
  obtain ⟨r0, r1, r2, r3, r4⟩ := HR3.out.cells
  clear hfin hf9 hs9 hRd9 hb9 hR9 hL9 hat9 hgr9 hrow9 hql l0 l1 fl0 fl1 hlv hq k0 k1 k3 k4 j0 j1 j3 j4
  go_upto_region 5 with fail
  rw [← hw2]
  clear hw2 d0 d1 d2 d3 d4 f0 f1 f2 f3 f4
  go_wp2
  go_end0
  exact ⟨rfl, HFIN.out⟩
/-- Each step. -/
theorem step_any (hg : goes s m.sc) (hb : Bd m) (hlen : m.rest.length ≤ 1000) (h : MI w0 w base R s m) : Calls Tryd.prog 23 #[.pointer (some ⟨R, 0, none⟩)] w fun x w' => x = .returned (.tuple #[]) ∧ MI w0 w' base R s (stepM s m) := by
  by_cases c40 : gb s m.sc.at_ = 40
  · exact step_40 w0 base R s m w hg hb hlen h c40
  by_cases c41 : gb s m.sc.at_ = 41
  · cases hr : m.rest with
    | nil => exact step_41a w0 base R s m w hg hb h c41 hr
    | cons v vs => exact step_41b w0 base R s m w hg hb h c41 v vs hr
  by_cases c124 : gb s m.sc.at_ = 124
  · exact step_124 w0 base R s m w hg hb h c124
  by_cases c42 : gb s m.sc.at_ = 42
  · by_cases hr : m.top.row = []
    · exact step_42a w0 base R s m w hg hb h c42 hr
    · exact step_42b w0 base R s m w hg hb h c42 hr
  by_cases c43 : gb s m.sc.at_ = 43
  · by_cases hr : m.top.row = []
    · exact step_43a w0 base R s m w hg hb h c43 hr
    · exact step_43b w0 base R s m w hg hb h c43 hr
  by_cases c63 : gb s m.sc.at_ = 63
  · by_cases hr : m.top.row = []
    · exact step_63a w0 base R s m w hg hb h c63 hr
    · exact step_63b w0 base R s m w hg hb h c63 hr
  by_cases c123 : gb s m.sc.at_ = 123
  · by_cases hr : m.top.row = []
    · exact step_123a w0 base R s m w hg hb h c123 hr
    · exact step_123b w0 base R s m w hg hb h c123 hr
  by_cases c46 : gb s m.sc.at_ = 46
  · exact step_46 w0 base R s m w hg hb h c46
  by_cases c91 : gb s m.sc.at_ = 91
  · exact step_91 w0 base R s m w hg hb h c91
  by_cases c92 : gb s m.sc.at_ = 92
  · exact step_92 w0 base R s m w hg hb h c92
  by_cases c93 : gb s m.sc.at_ = 93
  · exact step_93 w0 base R s m w hg hb h c93
  by_cases c125 : gb s m.sc.at_ = 125
  · exact step_125 w0 base R s m w hg hb h c125
  exact step_else w0 base R s m w hg hb h ⟨c40, c41, c124, c42, c43, c63, c123, c46, c91, c92, c93, c125⟩
end
end Go.Proofs.YtaohlmcgaggoeaaDoor.P
/- Parse: what bounds the machine; the walk. -/
namespace Go.Proofs.YtaohlmcgaggoeaaDoor.P
open Go.RowKit Go.Proofs.YtaohlmcgaggoeaaDoor Go.Proofs.YtaohlmcgaggoeaaDoorW.PrintWords Go.Proofs.YtaohlmcgaggoeaaDoorW.PrintLast Go.Proofs.YtaohlmcgaggoeaaDoorW.PrintMore
set_option linter.unusedVariables false
set_option linter.unusedSimpArgs false
/-- The machine's rows and levels are no more than the bytes that are read. -/
def BdM (m : Mc) : Prop := Bd m ∧ m.rest.length ≤ m.sc.at_
theorem step_bd {s : ByteArray} {m : Mc} (hg : goes s m.sc) (h : BdM m) : BdM (stepM s m) := by
  have hat := (step_at hg).1
  obtain ⟨hb, hr⟩ := h
  have ht := hb m.top (List.mem_cons_self ..)
  have hrest : ∀ v ∈ m.rest, v.rows.length ≤ m.sc.at_ ∧ v.row.length ≤ m.sc.at_ := fun v hv => hb v (List.mem_cons_of_mem _ hv)
  -- any machine with these levels
  have key : ∀ (m' : Mc), m.sc.at_ + 1 ≤ m'.sc.at_ → m'.top.rows.length ≤ m.sc.at_ + 1 → m'.top.row.length ≤ m.sc.at_ + 1 → m'.rest = m.rest → BdM m' := fun m' h1 h2 h3 h4 => by
    refine ⟨fun v hv => ?_, by rw [h4]; omega⟩
    rcases List.mem_cons.1 hv with rfl | hv
    · exact ⟨by omega, by omega⟩
    · rw [h4] at hv
      have := hrest v hv
      omega
  have put : ∀ t : T, (m.top.put t).rows.length ≤ m.sc.at_ + 1 ∧ (m.top.put t).row.length ≤ m.sc.at_ + 1 := fun t => ⟨by show m.top.rows.length ≤ _; omega, by show (m.top.row ++ [t]).length ≤ _; rw [List.length_append]; show m.top.row.length + 1 ≤ _; omega⟩
  have rep : ∀ lo hi, (m.top.rep lo hi).rows.length ≤ m.sc.at_ + 1 ∧ (m.top.rep lo hi).row.length ≤ m.sc.at_ + 1 := fun lo hi => ⟨by show m.top.rows.length ≤ _; omega, by
    show (m.top.row.dropLast ++ [_]).length ≤ _
    rw [List.length_append, List.length_dropLast]
    show m.top.row.length - 1 + 1 ≤ _
    omega⟩
  have cl : m.top.close.rows.length ≤ m.sc.at_ + 1 ∧ m.top.close.row.length ≤ m.sc.at_ + 1 := ⟨by show (m.top.rows ++ [_]).length ≤ _; rw [List.length_append]; show m.top.rows.length + 1 ≤ _; omega, Nat.zero_le _⟩
  have same : m.top.rows.length ≤ m.sc.at_ + 1 ∧ m.top.row.length ≤ m.sc.at_ + 1 := ⟨by omega, by omega⟩
  by_cases c40 : gb s m.sc.at_ = 40
  · have e : stepM s m = ⟨m.sc.adv, ⟨[], []⟩, m.top :: m.rest⟩ := by simp [stepM, c40]
    rw [e] at hat ⊢
    refine ⟨fun v hv => ?_, by show m.rest.length + 1 ≤ m.sc.at_ + 1; omega⟩
    rcases List.mem_cons.1 hv with rfl | hv
    · exact ⟨Nat.zero_le _, Nat.zero_le _⟩
    · rcases List.mem_cons.1 hv with rfl | hv
      · exact same
      · have := hrest v hv
        exact ⟨by show _ ≤ m.sc.at_ + 1; omega, by show _ ≤ m.sc.at_ + 1; omega⟩
  by_cases c41 : gb s m.sc.at_ = 41
  · cases hre : m.rest with
    | nil =>
      have e : stepM s m = ⟨m.sc.adv.fail m.sc.at_ 2, m.top, []⟩ := by simp [stepM, c41, hre]
      rw [e] at hat ⊢
      exact key _ hat same.1 same.2 (by rw [hre])
    | cons p r =>
      have e : stepM s m = ⟨m.sc.adv, p.put m.top.done, r⟩ := by simp [stepM, c41, hre]
      rw [e] at hat ⊢
      rw [hre] at hr hrest
      have hp := hrest p (List.mem_cons_self ..)
      refine ⟨fun v hv => ?_, by have : r.length + 1 ≤ m.sc.at_ := hr; show r.length ≤ m.sc.at_ + 1; omega⟩
      rcases List.mem_cons.1 hv with rfl | hv
      · exact ⟨by show p.rows.length ≤ m.sc.at_ + 1; omega, by show (p.row ++ [_]).length ≤ m.sc.at_ + 1; rw [List.length_append]; show p.row.length + 1 ≤ _; omega⟩
      · have := hrest v (List.mem_cons_of_mem _ hv)
        exact ⟨by show _ ≤ m.sc.at_ + 1; omega, by show _ ≤ m.sc.at_ + 1; omega⟩
  by_cases c124 : gb s m.sc.at_ = 124
  · have e : stepM s m = ⟨m.sc.adv, m.top.close, m.rest⟩ := by simp [stepM, c124]
    rw [e] at hat ⊢
    exact key _ hat cl.1 cl.2 rfl
  have rp : ∀ lo hi : Int, stepM s m = Mc.repeat_ ⟨m.sc.adv, m.top, m.rest⟩ m.sc.at_ lo hi → BdM (stepM s m) := fun lo hi e => by
    rw [e] at hat ⊢
    unfold Mc.repeat_ at hat ⊢
    split
    · rename_i h0
      rw [if_pos h0] at hat
      exact key _ hat same.1 same.2 rfl
    · rename_i h0
      rw [if_neg h0] at hat
      exact key _ hat (rep lo hi).1 (rep lo hi).2 rfl
  by_cases c42 : gb s m.sc.at_ = 42
  · exact rp 0 (-1) (by simp [stepM, c42])
  by_cases c43 : gb s m.sc.at_ = 43
  · exact rp 1 (-1) (by simp [stepM, c43])
  by_cases c63 : gb s m.sc.at_ = 63
  · exact rp 0 1 (by simp [stepM, c63])
  by_cases c123 : gb s m.sc.at_ = 123
  · by_cases h0 : m.top.row = []
    · have e : stepM s m = ⟨m.sc.adv.fail m.sc.at_ 2, m.top, m.rest⟩ := by simp [stepM, c123, h0]
      rw [e] at hat ⊢
      exact key _ hat same.1 same.2 rfl
    · have e : stepM s m = ⟨(timesS s m.sc.adv).2, m.top.rep (timesS s m.sc.adv).1.1 (timesS s m.sc.adv).1.2, m.rest⟩ := by simp [stepM, c123, h0]
      rw [e] at hat ⊢
      exact key _ hat (rep _ _).1 (rep _ _).2 rfl
  by_cases c46 : gb s m.sc.at_ = 46
  · have e : stepM s m = ⟨m.sc.adv, m.top.put (setN (inR 0 255)), m.rest⟩ := by simp [stepM, c46, Mc.put]
    rw [e] at hat ⊢
    exact key _ hat (put _).1 (put _).2 rfl
  by_cases c91 : gb s m.sc.at_ = 91
  · have e : stepM s m = ⟨(setS s m.sc.adv).2, m.top.put (setN (setS s m.sc.adv).1), m.rest⟩ := by simp [stepM, c91]
    rw [e] at hat ⊢
    exact key _ hat (put _).1 (put _).2 rfl
  by_cases c92 : gb s m.sc.at_ = 92
  · have e : stepM s m = ⟨(escapeS s m.sc.adv).2, m.top.put (setN (fun q => decide ((q : Int) = (escapeS s m.sc.adv).1))), m.rest⟩ := by simp [stepM, c92]
    rw [e] at hat ⊢
    exact key _ hat (put _).1 (put _).2 rfl
  by_cases c93 : gb s m.sc.at_ = 93 ∨ gb s m.sc.at_ = 125
  · have e : stepM s m = ⟨m.sc.adv.fail m.sc.at_ 2, m.top, m.rest⟩ := by rcases c93 with c | c <;> simp [stepM, c]
    rw [e] at hat ⊢
    exact key _ hat same.1 same.2 rfl
  · have e : stepM s m = ⟨m.sc.adv, m.top.put (setN (fun q => decide ((q : Int) = gb s m.sc.at_))), m.rest⟩ := by simp [stepM, Mc.put, c40, c41, c124, c42, c43, c63, c123, c46, c91, c92, c93]
    rw [e] at hat ⊢
    exact key _ hat (put _).1 (put _).2 rfl
theorem m0_bd : BdM m0 := by
  refine ⟨fun v hv => ?_, Nat.le_refl _⟩
  rcases List.mem_cons.1 hv with rfl | hv
  · exact ⟨Nat.zero_le _, Nat.zero_le _⟩
  · cases hv
end Go.Proofs.YtaohlmcgaggoeaaDoor.P
/- Parse: how many nodes the machine's rows have; how deep, how many places. -/
namespace Go.Proofs.YtaohlmcgaggoeaaDoor.P
open Go.RowKit Go.Proofs.YtaohlmcgaggoeaaDoor
set_option linter.unusedVariables false
set_option linter.unusedSimpArgs false
mutual
def cntT : T → Nat
  | ⟨_, _, ps, _, _⟩ => 1 + cntL ps
def cntL : List T → Nat
  | [] => 0
  | p :: ps => cntT p + cntL ps
end
theorem cntL_app (l m : List T) : cntL (l ++ m) = cntL l + cntL m := by
  induction l with
  | nil => simp [cntL]
  | cons a l ih => rw [List.cons_append, cntL, cntL, ih]; omega
theorem cntL_one (t : T) : cntL [t] = cntT t := by simp [cntL]
theorem cnt_oneN (k : Int) (l : List T) : cntT (oneN k l) ≤ 1 + cntL l := by
  unfold oneN
  split
  · simp [zN, cntT, cntL]
  · rw [cntL_one]; omega
  · rw [cntT]; exact Nat.le_refl _
theorem cntL_last (l : List T) (h : l ≠ []) : cntL l.dropLast + cntT (l.getLastD zN) = cntL l := by
  have e : l = l.dropLast ++ [l.getLastD zN] := by
    rw [List.getLastD_eq_getLast?, List.getLast?_eq_some_getLast h, Option.getD_some, List.dropLast_concat_getLast]
  conv => rhs; rw [e]
  rw [cntL_app, cntL_one]
def Lv.cnt (v : Lv) : Nat := cntL v.rows + cntL v.row
def cntR : List Lv → Nat
  | [] => 0
  | v :: r => v.cnt + cntR r
def tot (m : Mc) : Nat := m.top.cnt + cntR m.rest
theorem cnt_close (v : Lv) : v.close.cnt ≤ v.cnt + 1 := by
  show cntL (v.rows ++ [oneN 2 v.row]) + cntL [] ≤ cntL v.rows + cntL v.row + 1
  have := cnt_oneN 2 v.row
  rw [cntL_app, cntL_one, cntL]
  omega
theorem cnt_put (v : Lv) (t : T) : (v.put t).cnt = v.cnt + cntT t := by
  show cntL v.rows + cntL (v.row ++ [t]) = cntL v.rows + cntL v.row + cntT t
  rw [cntL_app, cntL_one]
  omega
theorem cnt_rep (v : Lv) (lo hi : Int) (h : v.row ≠ []) : (v.rep lo hi).cnt = v.cnt + 1 := by
  show cntL v.rows + cntL (v.row.dropLast ++ [timN (v.row.getLastD zN) lo hi]) = cntL v.rows + cntL v.row + 1
  have := cntL_last v.row h
  rw [cntL_app, cntL_one]
  show cntL v.rows + (cntL v.row.dropLast + cntT ⟨4, ⟨0, 0, 0, 0⟩, [v.row.getLastD zN], lo, hi⟩) = _
  rw [cntT, cntL_one]
  omega
theorem cnt_done (v : Lv) : cntT v.done ≤ v.cnt + 2 := by
  have h := cnt_close v
  have h2 := cnt_oneN 3 v.close.rows
  have h3 : v.close.cnt = cntL v.close.rows := by show cntL v.close.rows + cntL [] = _; rw [cntL, Nat.add_zero]
  show cntT (oneN 3 v.close.rows) ≤ _
  omega
theorem cnt_setN (f : Nat → Bool) : cntT (setN f) = 1 := by rw [setN, cntT, cntL]
theorem step_cnt {s : ByteArray} {m : Mc} : tot (stepM s m) ≤ tot m + 2 := by
  have rp : ∀ (sc : Sc) (lo hi : Int), tot (Mc.repeat_ ⟨sc, m.top, m.rest⟩ m.sc.at_ lo hi) ≤ tot m + 2 := fun sc lo hi => by
    unfold Mc.repeat_
    split
    · show m.top.cnt + cntR m.rest ≤ m.top.cnt + cntR m.rest + 2; omega
    · rename_i h0
      have := cnt_rep m.top lo hi h0
      show (m.top.rep lo hi).cnt + cntR m.rest ≤ m.top.cnt + cntR m.rest + 2
      omega
  have pt : ∀ (sc : Sc) (f : Nat → Bool), tot ⟨sc, m.top.put (setN f), m.rest⟩ ≤ tot m + 2 := fun sc f => by
    have := cnt_put m.top (setN f)
    rw [cnt_setN] at this
    show (m.top.put (setN f)).cnt + cntR m.rest ≤ m.top.cnt + cntR m.rest + 2
    omega
  have sm : ∀ (sc : Sc), tot ⟨sc, m.top, m.rest⟩ ≤ tot m + 2 := fun sc => by show m.top.cnt + cntR m.rest ≤ m.top.cnt + cntR m.rest + 2; omega
  by_cases c40 : gb s m.sc.at_ = 40
  · have e : stepM s m = ⟨m.sc.adv, ⟨[], []⟩, m.top :: m.rest⟩ := by simp [stepM, c40]
    rw [e]
    show cntL [] + cntL [] + (m.top.cnt + cntR m.rest) ≤ m.top.cnt + cntR m.rest + 2
    rw [cntL]; omega
  by_cases c41 : gb s m.sc.at_ = 41
  · cases hre : m.rest with
    | nil =>
      have e : stepM s m = ⟨m.sc.adv.fail m.sc.at_ 2, m.top, []⟩ := by simp [stepM, c41, hre]
      rw [e]
      show m.top.cnt + cntR [] ≤ m.top.cnt + cntR m.rest + 2
      rw [hre]; omega
    | cons p r =>
      have e : stepM s m = ⟨m.sc.adv, p.put m.top.done, r⟩ := by simp [stepM, c41, hre]
      rw [e]
      show (p.put m.top.done).cnt + cntR r ≤ m.top.cnt + cntR m.rest + 2
      have h1 := cnt_put p m.top.done
      have h2 := cnt_done m.top
      rw [hre]
      show _ ≤ m.top.cnt + (p.cnt + cntR r) + 2
      omega
  by_cases c124 : gb s m.sc.at_ = 124
  · have e : stepM s m = ⟨m.sc.adv, m.top.close, m.rest⟩ := by simp [stepM, c124]
    rw [e]
    have := cnt_close m.top
    show m.top.close.cnt + cntR m.rest ≤ m.top.cnt + cntR m.rest + 2
    omega
  by_cases c42 : gb s m.sc.at_ = 42
  · rw [show stepM s m = Mc.repeat_ ⟨m.sc.adv, m.top, m.rest⟩ m.sc.at_ 0 (-1) by simp [stepM, c42]]
    exact rp _ _ _
  by_cases c43 : gb s m.sc.at_ = 43
  · rw [show stepM s m = Mc.repeat_ ⟨m.sc.adv, m.top, m.rest⟩ m.sc.at_ 1 (-1) by simp [stepM, c43]]
    exact rp _ _ _
  by_cases c63 : gb s m.sc.at_ = 63
  · rw [show stepM s m = Mc.repeat_ ⟨m.sc.adv, m.top, m.rest⟩ m.sc.at_ 0 1 by simp [stepM, c63]]
    exact rp _ _ _
  by_cases c123 : gb s m.sc.at_ = 123
  · by_cases h0 : m.top.row = []
    · rw [show stepM s m = ⟨m.sc.adv.fail m.sc.at_ 2, m.top, m.rest⟩ by simp [stepM, c123, h0]]
      exact sm _
    · rw [show stepM s m = ⟨(timesS s m.sc.adv).2, m.top.rep (timesS s m.sc.adv).1.1 (timesS s m.sc.adv).1.2, m.rest⟩ by simp [stepM, c123, h0]]
      have := cnt_rep m.top (timesS s m.sc.adv).1.1 (timesS s m.sc.adv).1.2 h0
      show (m.top.rep _ _).cnt + cntR m.rest ≤ m.top.cnt + cntR m.rest + 2
      omega
  by_cases c46 : gb s m.sc.at_ = 46
  · rw [show stepM s m = ⟨m.sc.adv, m.top.put (setN (inR 0 255)), m.rest⟩ by simp [stepM, c46, Mc.put]]
    exact pt _ _
  by_cases c91 : gb s m.sc.at_ = 91
  · rw [show stepM s m = ⟨(setS s m.sc.adv).2, m.top.put (setN (setS s m.sc.adv).1), m.rest⟩ by simp [stepM, c91]]
    exact pt _ _
  by_cases c92 : gb s m.sc.at_ = 92
  · rw [show stepM s m = ⟨(escapeS s m.sc.adv).2, m.top.put (setN (fun q => decide ((q : Int) = (escapeS s m.sc.adv).1))), m.rest⟩ by simp [stepM, c92]]
    exact pt _ _
  by_cases c93 : gb s m.sc.at_ = 93 ∨ gb s m.sc.at_ = 125
  · rw [show stepM s m = ⟨m.sc.adv.fail m.sc.at_ 2, m.top, m.rest⟩ by rcases c93 with c | c <;> simp [stepM, c]]
    exact sm _
  · rw [show stepM s m = ⟨m.sc.adv, m.top.put (setN (fun q => decide ((q : Int) = gb s m.sc.at_))), m.rest⟩ by simp [stepM, Mc.put, c40, c41, c124, c42, c43, c63, c123, c46, c91, c92, c93]]
    exact pt _ _
/-- The machine's rows are few and short, and so are its nodes. -/
def BdN (m : Mc) : Prop := BdM m ∧ tot m ≤ 2 * m.sc.at_
theorem step_bdN {s : ByteArray} {m : Mc} (hg : goes s m.sc) (h : BdN m) : BdN (stepM s m) := by
  have hat := (step_at hg).1
  have := step_cnt (s := s) (m := m)
  have := h.2
  exact ⟨step_bd hg h.1, by omega⟩
theorem m0_bdN : BdN m0 := ⟨m0_bd, by show cntL [] + cntL [] + 0 ≤ 0; rw [cntL]; omega⟩
mutual
theorem placesT_le : ∀ x : T, placesT x ≤ cntT x
  | ⟨k, s, ps, lo, hi⟩ => by
    have := placesL_le ps
    rw [placesT, cntT]
    split <;> omega
theorem placesL_le : ∀ l : List T, placesL l ≤ cntL l
  | [] => by simp [placesL, cntL]
  | p :: ps => by
    have h1 := placesT_le p
    have h2 := placesL_le ps
    rw [placesL, cntL]
    omega
end
mutual
theorem depthT_le : ∀ x : T, depthT x ≤ cntT x
  | ⟨k, s, ps, lo, hi⟩ => by
    have := depthL_le ps
    rw [depthT, cntT]
    omega
theorem depthL_le : ∀ l : List T, depthL l ≤ cntL l
  | [] => by simp [depthL, cntL]
  | p :: ps => by
    have h1 := depthT_le p
    have h2 := depthL_le ps
    rw [depthL, cntL]
    omega
end
end Go.Proofs.YtaohlmcgaggoeaaDoor.P
/- Parse: how deep, how many places, walked. -/
namespace Go.Proofs.YtaohlmcgaggoeaaDoor.P
open Go.RowKit Go.Proofs.YtaohlmcgaggoeaaDoor Go.Proofs.YtaohlmcgaggoeaaDoorW.PrintWords Go.Proofs.YtaohlmcgaggoeaaDoorW.PrintLast Go.Proofs.YtaohlmcgaggoeaaDoorW.PrintMore
set_option linter.unusedVariables false
set_option linter.unusedSimpArgs false
theorem rdN (xs : List T) (i : Nat) (h : i < xs.length) : rd_T27 xs (i : Int) = xs[i] := by
  simp [rd_T27, List.getD_eq_getElem?_getD, List.getElem?_eq_getElem h]
theorem dropN (xs : List T) (i : Nat) (h : i < xs.length) : xs.drop i = xs[i] :: xs.drop (i + 1) := List.drop_eq_getElem_cons h
theorem wrapS (i : Nat) (h : i < 9223372036854775807) : wrap64 ((i : Int) + 1) = ((i + 1 : Nat) : Int) := by unfold wrap64; omega
theorem wrapI {n : Int} (h0 : -9223372036854775808 ≤ n) (h1 : n ≤ 9223372036854775807) : wrap64 n = n := by unfold wrap64; omega
theorem cnt_pos (x : T) : 1 ≤ cntT x := by cases x; rw [cntT]; omega
theorem len_le_cntL (ps : List T) : ps.length ≤ cntL ps := by
  induction ps with
  | nil => simp [cntL]
  | cons p ps ih => rw [cntL, List.length_cons]; have := cnt_pos p; omega
theorem cntL_mem {p : T} {ps : List T} (h : p ∈ ps) : cntT p ≤ cntL ps := by
  induction ps with
  | nil => cases h
  | cons q ps ih =>
    rw [cntL]
    rcases List.mem_cons.1 h with rfl | h
    · omega
    · have := ih h; omega
abbrev placesF (k : Nat) (x : T) : Option Int := syntax_Places.f k x.f0 x.f1.f0 x.f1.f1 x.f1.f2 x.f1.f3 x.f2 x.f3 x.f4
abbrev depthF (k : Nat) (x : T) : Option Int := syntax_Depth.f k x.f0 x.f1.f0 x.f1.f1 x.f1.f2 x.f1.f3 x.f2 x.f3 x.f4
theorem places_ev (n : Nat) : ∀ (x : T), cntT x < n → cntT x ≤ 1000000 → Ev (fun k => placesF k x) (placesT x : Int) := by
  induction n with
  | zero => intro x h; omega
  | succ n ih =>
    intro x hn hc
    obtain ⟨a, ⟨b0, b1, b2, b3⟩, ps, lo, hi⟩ := x
    rw [cntT] at hn hc
    have hll := len_le_cntL ps
    have loop : ∀ (d i v : Nat), ps.length - i = d → i ≤ ps.length → v + placesL (ps.drop i) ≤ 2000000 → Ev (fun k => syntax_Places.l0 k (v : Int) ps (ps.length : Int) (i : Int)) ((v + placesL (ps.drop i) : Nat) : Int) := by
      intro d
      induction d with
      | zero =>
        intro i v hd hile hv
        refine Ev.step (f := fun _ => some (v : Int)) (fun k => ?_) (by rw [show i = ps.length by omega, List.drop_length]; simpa [placesL] using Ev.now _)
        simp only [syntax_Places.l0]
        rw [if_neg (by omega)]
      | succ d ihd =>
        intro i v hd hile hv
        have hlt : i < ps.length := by omega
        have hmem := List.getElem_mem hlt
        have hcm := cntL_mem hmem
        have hp1 := ih ps[i] (by omega) (by omega)
        rw [dropN ps i hlt, placesL] at hv ⊢
        have hr := ihd (i + 1) (v + placesT ps[i]) (by omega) (by omega) (by omega)
        rw [show v + (placesT ps[i] + placesL (ps.drop (i + 1))) = v + placesT ps[i] + placesL (ps.drop (i + 1)) by omega]
        refine Ev.step (f := fun k => (placesF k ps[i]).bind fun t => syntax_Places.l0 k (wrap64 ((v : Int) + t)) ps (ps.length : Int) ((i + 1 : Nat) : Int)) (fun k => ?_) (Ev.bind hp1 ?_)
        · simp only [syntax_Places.l0]
          rw [if_pos (by omega), if_pos (by omega), if_pos (by omega), rdN ps i hlt, wrapS i (by omega)]
        · rw [wrapI (by omega) (by omega), ← Int.natCast_add]; exact hr
    have hpl := placesL_le ps
    refine Ev.step (f := fun k => syntax_Places.j0 k ((if a = 1 then 1 else 0 : Nat) : Int) a b0 b1 b2 b3 ps lo hi) (fun k => ?_) ?_
    · simp only [placesF, syntax_Places.f]
      by_cases h1 : a = 1
      · rw [if_pos h1, if_pos h1]; rfl
      · rw [if_neg h1, if_neg h1]; rfl
    · rw [placesT]
      have h0 : (if a = 1 then 1 else 0 : Nat) ≤ 1 := by split <;> omega
      generalize (if a = 1 then 1 else 0 : Nat) = v at h0
      refine Ev.step (f := fun k => syntax_Places.l0 k (v : Int) ps (ps.length : Int) ((0 : Nat) : Int)) (fun k => by simp only [syntax_Places.j0]; rfl) ?_
      have := loop ps.length 0 v (by omega) (by omega) (by rw [List.drop_zero]; omega)
      rwa [List.drop_zero] at this
theorem depth_ev (n : Nat) : ∀ (x : T), cntT x < n → cntT x ≤ 1000000 → Ev (fun k => depthF k x) (depthT x : Int) := by
  induction n with
  | zero => intro x h; omega
  | succ n ih =>
    intro x hn hc
    obtain ⟨a, ⟨b0, b1, b2, b3⟩, ps, lo, hi⟩ := x
    rw [cntT] at hn hc
    have hll := len_le_cntL ps
    have hdl := depthL_le ps
    have loop : ∀ (d i v : Nat), ps.length - i = d → i ≤ ps.length → max v (depthL (ps.drop i)) ≤ 2000000 → Ev (fun k => syntax_Depth.l0 k (v : Int) ps (ps.length : Int) (i : Int)) ((max v (depthL (ps.drop i)) + 1 : Nat) : Int) := by
      intro d
      induction d with
      | zero =>
        intro i v hd hile hv
        rw [show ps.drop i = [] by rw [show i = ps.length by omega, List.drop_length]] at hv ⊢
        rw [depthL] at hv ⊢
        refine Ev.step (f := fun _ => some ((v + 1 : Nat) : Int)) (fun k => ?_) (by rw [Nat.max_zero]; exact Ev.now _)
        simp only [syntax_Depth.l0]
        rw [if_neg (by omega), wrapS v (by omega)]
      | succ d ihd =>
        intro i v hd hile hv
        have hlt : i < ps.length := by omega
        have hmem := List.getElem_mem hlt
        have hcm := cntL_mem hmem
        have hp1 := ih ps[i] (by omega) (by omega)
        rw [dropN ps i hlt, depthL] at hv ⊢
        have hr := ihd (i + 1) (max v (depthT ps[i])) (by omega) (by omega) (by omega)
        rw [show max v (max (depthT ps[i]) (depthL (ps.drop (i + 1)))) = max (max v (depthT ps[i])) (depthL (ps.drop (i + 1))) by omega]
        refine Ev.step (f := fun k => (depthF k ps[i]).bind fun t => syntax_Depth.l0 k (mx (v : Int) t) ps (ps.length : Int) ((i + 1 : Nat) : Int)) (fun k => ?_) (Ev.bind hp1 ?_)
        · simp only [syntax_Depth.l0]
          rw [if_pos (by omega), if_pos (by omega), if_pos (by omega), rdN ps i hlt, wrapS i (by omega)]
        · rw [show mx (v : Int) (depthT ps[i] : Int) = ((max v (depthT ps[i]) : Nat) : Int) by unfold mx; split <;> omega]; exact hr
    refine Ev.step (f := fun k => syntax_Depth.l0 k ((0 : Nat) : Int) ps (ps.length : Int) ((0 : Nat) : Int)) (fun k => by simp only [depthF, syntax_Depth.f]; rfl) ?_
    have := loop ps.length 0 0 (by omega) (by omega) (by rw [List.drop_zero]; omega)
    rw [List.drop_zero, Nat.zero_max] at this
    rw [depthT]
    exact this
section
variable (x : T) (A : Option Addr) (c : Nat) (w : World)
theorem sy_places (hc : cntT x ≤ 1000000) (hr : Kd.C k27 w A x.f2.length x.f2) (hcap : x.f2.length ≤ c) : Calls Tryd.prog 29 #[ndV x A c] w fun e w' => e = .returned (.int .i64 (placesT x : Int)) ∧ Below w.heap.size w w' := by
  obtain ⟨k, hk⟩ := (places_ev _ x (Nat.lt_succ_self _) hc).rounds
  exact syntax_Places.calls k _ _ _ _ _ A c _ _ _ _ w hr hcap hk
theorem sy_depth (hc : cntT x ≤ 1000000) (hr : Kd.C k27 w A x.f2.length x.f2) (hcap : x.f2.length ≤ c) : Calls Tryd.prog 28 #[ndV x A c] w fun e w' => e = .returned (.int .i64 (depthT x : Int)) ∧ Below w.heap.size w w' := by
  obtain ⟨k, hk⟩ := (depth_ev _ x (Nat.lt_succ_self _) hc).rounds
  exact syntax_Depth.calls k _ _ _ _ _ A c _ _ _ _ w hr hcap hk
end
end Go.Proofs.YtaohlmcgaggoeaaDoor.P
/- Parse: the walk; a text that is too long. -/
namespace Go.Proofs.YtaohlmcgaggoeaaDoor.P
open Go.RowKit Go.Proofs.YtaohlmcgaggoeaaDoor Go.Proofs.YtaohlmcgaggoeaaDoorW.PrintWords Go.Proofs.YtaohlmcgaggoeaaDoorW.PrintLast Go.Proofs.YtaohlmcgaggoeaaDoorW.PrintMore
set_option linter.unusedVariables false
set_option linter.unusedSimpArgs false
attribute [local go_sem ↓] idxG appS
theorem post_row_two {P : Program} {fn : Func} {R : Ending → World → Prop} {a : Act} {w : World} {p u v : Tmp} {T t : TypeId} {g : Nat} {cs : Array Value} {fr : Nat × Nat} {d : TypeDesc} {x y : Value}
    (hr : fn.results = #[.cell p T, .tmp u, .tmp v]) (hp : a.tmps.getD p undef = .pointer (some ⟨g, 0, none⟩)) (hg : w.heap[g]? = some (.cells cs t fr))
    (hu : P.underlying T = some d) (hd : (match d with | .struct _ | .array _ _ => true | _ => false) = true) (hi : (P.info? T).map (·.size) = some cs.size) (hx : a.tmps.getD u undef = x) (hy : a.tmps.getD v undef = y) (hdf : a.defers = [])
    (hR : R (.returned (.tuple #[.agg cs, x, y])) w) : bodyPost P fn R .ret a w := by
  refine bodyPost_ret (v := .tuple #[.agg cs, x, y]) ?_ hdf hR
  have hp' : a.tmps[p]?.getD undef = .pointer (some ⟨g, 0, none⟩) := by simpa using hp
  have hx' : a.tmps[u]?.getD undef = x := by simpa using hx
  have hy' : a.tmps[v]?.getD undef = y := by simpa using hy
  simp only [results, hr]
  simp [Sem.run_bind, Result.andThen, hp', hx', hy', asAddr, run_loadVar_row w g t T cs fr d hg hu hd hi]
abbrev zcs : Array Value := #[.int .i64 0, .int .u64 0, .int .u64 0, .int .u64 0, .int .u64 0, .slice none 0 0, .int .i64 0, .int .i64 0]
/-- What Parse answers. -/
def PAns (s : ByteArray) (w : World) (x : Ending) (w' : World) : Prop := ∃ A c, x = .returned (.tuple #[ndV (parseS s).t A c, .int .i64 (parseS s).pl, .int .i64 (parseS s).e]) ∧ (parseS s).t.f2.length ≤ c ∧ Kd.C k27 w' A (parseS s).t.f2.length (parseS s).t.f2 ∧ Below w.heap.size w w'
theorem pans_zero {s : ByteArray} {w w' : World} {pl e : Int} (h : parseS s = ⟨zN, pl, e⟩) (hb : Below w.heap.size w w') : PAns s w (.returned (.tuple #[.agg zcs, .int .i64 pl, .int .i64 e])) w' := by
  refine ⟨none, 0, ?_, ?_, ?_, hb⟩
  · rw [h]; rfl
  · rw [h]; exact Nat.le_refl _
  · rw [h]; exact Kd.C_nil _ _
section
variable (s : ByteArray) (w : World)
set_option maxHeartbeats 2000000 in
theorem parse_big (hs : s.size > 400) : Calls Tryd.prog 12 #[.string s] w fun x w' => PAns s w x w' := by
  have hp : parseS s = ⟨zN, 0, 3⟩ := by unfold parseS; rw [if_pos hs]
  have hb : Below w.heap.size w (w.alloc (.cells zcs 27)) := box_belowS _ _
  have HP := Lib.hid hp
  have hs' : (400 : Int) < (s.size : Int) := by omega
  clear hp
  go_enter Tryd.func12, Tryd.ntmps12
  go_wp2
  refine post_row_two Tryd.results12 rfl (heap_alloc_new w _) Tryd.underlying27 (by kernel_rfl) (by kernel_rfl) rfl rfl rfl ?_
  exact pans_zero HP.out hb
/-- The machine as it begins. -/
def own0 (R : Nat) : Own := fun k => if k = R + 1 then some 0 else if k = R then some 1 else if k < R then some 0 else none
theorem mkL (W : World) : (Instr.makeSlice 45 (.int .i64 1) (.int .i64 1)).run Tryd.prog W = .ok (.slice (some ⟨W.heap.size, 0, none⟩) 1 1) (W.alloc (.cells #[.slice none 0 0, .slice none 0 0] 53)) := by kernel_rfl
/-- The reader is made: its levels, its box. -/
def wB (s : ByteArray) (w1 : World) : World := (w1.alloc (.cells #[.slice none 0 0, .slice none 0 0] 53)).alloc (.cells #[.string s, .int .i64 0, .slice (some ⟨w1.heap.size, 0, none⟩) 1 1, .int .i64 0, .int .i64 0] 47)
theorem mi_start (w1 : World) (hs : s.size ≤ 1000) : MI w1 (wB s w1) w1.heap.size (w1.heap.size + 1) s m0 := by
  have hsz : (wB s w1).heap.size = w1.heap.size + 2 := by simp [wB]
  have hR : (wB s w1).heap[w1.heap.size + 1]? = some (.cells #[.string s, .int .i64 0, .slice (some ⟨w1.heap.size, 0, none⟩) 1 1, .int .i64 0, .int .i64 0] 47) := heap_alloc2_new w1 _ _
  have hL : (wB s w1).heap[w1.heap.size]? = some (.cells #[.slice none 0 0, .slice none 0 0] 53) := by
    unfold wB
    rw [heap_alloc_old _ _ (by simp)]
    exact heap_alloc_new w1 _
  have hb : Below w1.heap.size w1 (wB s w1) := (box_belowS w1 _).trans ((box_belowS _ _).mono (by simp))
  refine ⟨⟨.slice (some ⟨w1.heap.size, 0, none⟩) 1 1, own0 w1.heap.size, [], ⟨.slice none 0 0, .slice none 0 0, ⟨[], []⟩, [], []⟩, ⟨hR, Nat.zero_le _, hs⟩, ⟨?_, ?_, ?_, ?_, ?_, ?_⟩, rfl, rfl⟩, hb, by omega, by omega⟩
  · unfold own0; rw [if_pos rfl]
  · refine ⟨rfl, .inr ⟨w1.heap.size, 1, #[.slice none 0 0, .slice none 0 0], rfl, Nat.le_refl _, hL, Nat.le_refl _, by unfold maxLen; omega, rfl, rfl⟩⟩
  · intro k hk
    injection hk with hk
    unfold own0
    rw [← hk, if_neg (by simp), if_pos rfl]
  · intro k hk
    unfold own0
    rw [if_neg (by omega), if_neg (by omega), if_neg (by omega)]
  · intro i hi
    have : i = 0 := by simpa using hi
    subst this
    exact ⟨Rw.nil _ _ _ _, Rw.nil _ _ _ _⟩
  · intro k hk
    unfold own0
    rw [if_neg (by omega), if_neg (by omega), if_pos hk]
    exact ⟨by omega, rfl⟩
theorem MI.fr {w0 w w' : World} {base R : Nat} {s : ByteArray} {m : Mc} (h : MI w0 w base R s m) (hf : Fr w.heap.size R w w') (hb : w'.heap[R]? = w.heap[R]?) : MI w0 w' base R s m := by
  obtain ⟨⟨lv, own, pre, e, hR, hL, he, hp⟩, hbel, hbR, hbs⟩ := h
  exact ⟨⟨lv, own, pre, e, hR.keep hb, hL.fr hf, he, hp⟩, hbel.trans (hf.below hbs hbR), hbR, Nat.le_trans hbs hf.size⟩
theorem MI.drewN {w0 w : World} {base R : Nat} {s : ByteArray} {m : Mc} (h : MI w0 w base R s m) (n : Nat) : MI w0 (w.drewN n) base R s m := h.fr (fr_drewN' _ _ _ _) rfl
theorem goes_not {s : ByteArray} {m : Mc} (h : m.sc.e ≠ 0 ∨ s.size ≤ m.sc.at_) : ¬ goes s m.sc := by
  intro hg
  have h1 := hg.1
  have h2 := hg.2
  rcases h with h | h
  · exact h h1
  · omega
theorem parse_err {s : ByteArray} {m : Mc} {pl e : Int} (hs : s.size ≤ 400) (h : m = runF s m0) (he : e ≠ 0) (h1 : (endM m).pl = pl) (h2 : (endM m).e = e) : parseS s = ⟨zN, pl, e⟩ := by
  have hr : runM s (s.size + 1) m0 = m := by rw [h]; rfl
  unfold parseS
  rw [if_neg (by omega)]
  dsimp only
  rw [hr, h1, h2, if_pos he]
theorem parse_end {s : ByteArray} {m : Mc} (hs : s.size ≤ 400) (h : m = runF s m0) (he : (endM m).e = 0) : parseS s = if wideT m.top.done then ⟨zN, 0, 3⟩ else ⟨m.top.done, 0, 0⟩ := by
  have hr : runM s (s.size + 1) m0 = m := by rw [h]; rfl
  unfold parseS
  rw [if_neg (by omega)]
  dsimp only
  rw [hr, if_neg (by simp [he])]
section
variable {w : World} {g : Nat} {a0 a1 a2 a3 a4 a5 a6 a7 : Value} {t : TypeId} (h : w.heap[g]? = some (.cells #[a0, a1, a2, a3, a4, a5, a6, a7] t)) (v : Value)
include h
theorem blk8_0 : (w.setCell ⟨g, 0, none⟩ v).heap[g]? = some (.cells #[v, a1, a2, a3, a4, a5, a6, a7] t) := blk_set h 0 v
theorem blk8_1 : (w.setCell ⟨g, 1, none⟩ v).heap[g]? = some (.cells #[a0, v, a2, a3, a4, a5, a6, a7] t) := blk_set h 1 v
theorem blk8_2 : (w.setCell ⟨g, 2, none⟩ v).heap[g]? = some (.cells #[a0, a1, v, a3, a4, a5, a6, a7] t) := blk_set h 2 v
theorem blk8_3 : (w.setCell ⟨g, 3, none⟩ v).heap[g]? = some (.cells #[a0, a1, a2, v, a4, a5, a6, a7] t) := blk_set h 3 v
theorem blk8_4 : (w.setCell ⟨g, 4, none⟩ v).heap[g]? = some (.cells #[a0, a1, a2, a3, v, a5, a6, a7] t) := blk_set h 4 v
theorem blk8_5 : (w.setCell ⟨g, 5, none⟩ v).heap[g]? = some (.cells #[a0, a1, a2, a3, a4, v, a6, a7] t) := blk_set h 5 v
theorem blk8_6 : (w.setCell ⟨g, 6, none⟩ v).heap[g]? = some (.cells #[a0, a1, a2, a3, a4, a5, v, a7] t) := blk_set h 6 v
theorem blk8_7 : (w.setCell ⟨g, 7, none⟩ v).heap[g]? = some (.cells #[a0, a1, a2, a3, a4, a5, a6, v] t) := blk_set h 7 v
end
theorem blk_set8 {w : World} {g : Nat} {a b c d e f p q : Value} {t : TypeId} (h : w.heap[g]? = some (.cells zcs t)) :
    ((((((((w.setCell ⟨g, 0, none⟩ a).setCell ⟨g, 1, none⟩ b).setCell ⟨g, 2, none⟩ c).setCell ⟨g, 3, none⟩ d).setCell ⟨g, 4, none⟩ e).setCell ⟨g, 5, none⟩ f).setCell ⟨g, 6, none⟩ p).setCell ⟨g, 7, none⟩ q).heap[g]? = some (.cells #[a, b, c, d, e, f, p, q] t) :=
  blk8_7 (blk8_6 (blk8_5 (blk8_4 (blk8_3 (blk8_2 (blk8_1 (blk8_0 h a) b) c) d) e) f) p) q
theorem below_set8 {B g : Nat} {a w : World} (h : Below B a w) (hg : B ≤ g) (x0 x1 x2 x3 x4 x5 x6 x7 : Value) :
    Below B a ((((((((w.setCell ⟨g, 0, none⟩ x0).setCell ⟨g, 1, none⟩ x1).setCell ⟨g, 2, none⟩ x2).setCell ⟨g, 3, none⟩ x3).setCell ⟨g, 4, none⟩ x4).setCell ⟨g, 5, none⟩ x5).setCell ⟨g, 6, none⟩ x6).setCell ⟨g, 7, none⟩ x7) :=
  (((((((h.setCell (p := ⟨g, 0, none⟩) hg _).setCell (p := ⟨g, 1, none⟩) hg _).setCell (p := ⟨g, 2, none⟩) hg _).setCell (p := ⟨g, 3, none⟩) hg _).setCell (p := ⟨g, 4, none⟩) hg _).setCell (p := ⟨g, 5, none⟩) hg _).setCell (p := ⟨g, 6, none⟩) hg _).setCell (p := ⟨g, 7, none⟩) hg _
theorem heap_drewX (X : World) : X.drew.heap = X.heap := rfl
theorem blk_set8d {w : World} {g : Nat} {a b c d e f p q : Value} {t : TypeId} (h : w.heap[g]? = some (.cells zcs t)) :
    ((((((((w.setCell ⟨g, 0, none⟩ a).setCell ⟨g, 1, none⟩ b).setCell ⟨g, 2, none⟩ c).setCell ⟨g, 3, none⟩ d).setCell ⟨g, 4, none⟩ e).setCell ⟨g, 5, none⟩ f).setCell ⟨g, 6, none⟩ p).setCell ⟨g, 7, none⟩ q).drew.heap[g]? = some (.cells #[a, b, c, d, e, f, p, q] t) := by rw [heap_drewX]; exact blk_set8 h
theorem below_res {w w1 wF : World} {B : Nat} (h : w1 = w.alloc (.cells zcs 27)) (hB : B = w1.heap.size) (hF : Below B w1 wF) {x0 x1 x2 x3 x4 x5 x6 x7 : Value} :
    Below w.heap.size w ((((((((wF.setCell ⟨w.heap.size, 0, none⟩ x0).setCell ⟨w.heap.size, 1, none⟩ x1).setCell ⟨w.heap.size, 2, none⟩ x2).setCell ⟨w.heap.size, 3, none⟩ x3).setCell ⟨w.heap.size, 4, none⟩ x4).setCell ⟨w.heap.size, 5, none⟩ x5).setCell ⟨w.heap.size, 6, none⟩ x6).setCell ⟨w.heap.size, 7, none⟩ x7).drew := by
  have h1 : Below w.heap.size w w1 := by rw [h]; exact box_belowS _ _
  exact (below_set8 (h1.trans (hF.mono (by rw [hB]; exact h1.size))) (Nat.le_refl _) _ _ _ _ _ _ _ _).drew
theorem n_cells {w : World} {g : Nat} {t : TypeId} {c0 c1 c2 c3 c4 c5 c6 c7 : Value} (h : w.heap[g]? = some (.cells #[c0, c1, c2, c3, c4, c5, c6, c7] t (0, 0))) :
    w.cell? ⟨g, 0, none⟩ = some c0 ∧ w.cell? ⟨g, 1, none⟩ = some c1 ∧ w.cell? ⟨g, 2, none⟩ = some c2 ∧ w.cell? ⟨g, 3, none⟩ = some c3 ∧ w.cell? ⟨g, 4, none⟩ = some c4 ∧ w.cell? ⟨g, 5, none⟩ = some c5 ∧ w.cell? ⟨g, 6, none⟩ = some c6 ∧ w.cell? ⟨g, 7, none⟩ = some c7 :=
  ⟨(blk_cell h 0).trans rfl, (blk_cell h 1).trans rfl, (blk_cell h 2).trans rfl, (blk_cell h 3).trans rfl, (blk_cell h 4).trans rfl, (blk_cell h 5).trans rfl, (blk_cell h 6).trans rfl, (blk_cell h 7).trans rfl⟩
theorem below_resN {w w1 wF : World} {B : Nat} (h : w1 = w.alloc (.cells zcs 27)) (hB : B = w1.heap.size) (hF : Below B w1 wF) {x0 x1 x2 x3 x4 x5 x6 x7 : Value} :
    Below w.heap.size w ((((((((wF.setCell ⟨w.heap.size, 0, none⟩ x0).setCell ⟨w.heap.size, 1, none⟩ x1).setCell ⟨w.heap.size, 2, none⟩ x2).setCell ⟨w.heap.size, 3, none⟩ x3).setCell ⟨w.heap.size, 4, none⟩ x4).setCell ⟨w.heap.size, 5, none⟩ x5).setCell ⟨w.heap.size, 6, none⟩ x6).setCell ⟨w.heap.size, 7, none⟩ x7) := by
  have h1 : Below w.heap.size w w1 := by rw [h]; exact box_belowS _ _
  exact below_set8 (h1.trans (hF.mono (by rw [hB]; exact h1.size))) (Nat.le_refl _) _ _ _ _ _ _ _ _
theorem far_resN (W : World) (g : Nat) (x0 x1 x2 x3 x4 x5 x6 x7 : Value) :
    W.heap.size ≤ ((((((((W.setCell ⟨g, 0, none⟩ x0).setCell ⟨g, 1, none⟩ x1).setCell ⟨g, 2, none⟩ x2).setCell ⟨g, 3, none⟩ x3).setCell ⟨g, 4, none⟩ x4).setCell ⟨g, 5, none⟩ x5).setCell ⟨g, 6, none⟩ x6).setCell ⟨g, 7, none⟩ x7).heap.size ∧
    ∀ k, k ≠ g → ((((((((W.setCell ⟨g, 0, none⟩ x0).setCell ⟨g, 1, none⟩ x1).setCell ⟨g, 2, none⟩ x2).setCell ⟨g, 3, none⟩ x3).setCell ⟨g, 4, none⟩ x4).setCell ⟨g, 5, none⟩ x5).setCell ⟨g, 6, none⟩ x6).setCell ⟨g, 7, none⟩ x7).heap[k]? = W.heap[k]? := by
  refine ⟨by simp [World.setCell], fun k hk => ?_⟩
  rw [Below.heap_setCell _ _ _ _ hk, Below.heap_setCell _ _ _ _ hk, Below.heap_setCell _ _ _ _ hk, Below.heap_setCell _ _ _ _ hk, Below.heap_setCell _ _ _ _ hk, Below.heap_setCell _ _ _ _ hk, Below.heap_setCell _ _ _ _ hk, Below.heap_setCell _ _ _ _ hk]
attribute [local go_sem ↓] mkL
theorem top0 (R L cap : Nat) (w : World) (hc : w.cell? ⟨R, 2, none⟩ = some (.slice (some ⟨L, 0, none⟩) 1 cap)) (hn : 0 + 1 ≤ cap) (hcap : cap ≤ 9223372036854775807) :
    Calls Tryd.prog 25 #[.pointer (some ⟨R, 0, none⟩)] w fun e w' => e = .returned (.pointer (some ⟨L, 0, none⟩)) ∧ ∃ m, w' = w.drewN m := by
  have := top_any R L 0 cap w hc hn hcap
  rw [Nat.zero_mul] at this
  exact this
set_option maxHeartbeats 8000000 in
theorem parse_small (hs : s.size ≤ 400) : Calls Tryd.prog 12 #[.string s] w fun x w' => PAns s w x w' := by
  have hs' : ¬ (400 : Int) < (s.size : Int) := by omega
  obtain ⟨w1, hw1⟩ : ∃ w1, w1 = w.alloc (.cells zcs 27) := ⟨_, rfl⟩
  have hsz : w1.heap.size = w.heap.size + 1 := by rw [hw1]; simp
  have hM0 := mi_start s w1 (by omega)
  obtain ⟨R, hR⟩ : ∃ R, R = w.heap.size + 1 + 1 := ⟨_, rfl⟩
  obtain ⟨B, hB⟩ : ∃ B, B = w.heap.size + 1 := ⟨_, rfl⟩
  have hR1 : R = w1.heap.size + 1 := by omega
  have hB1 : B = w1.heap.size := by omega
  rw [← hR1, ← hB1] at hM0
  have hwB : wB s w1 = ((w.alloc (.cells zcs 27)).alloc (.cells #[.slice none 0 0, .slice none 0 0] 53)).alloc (.cells #[.string s, .int .i64 0, .slice (some ⟨w.heap.size + 1, 0, none⟩) 1 1, .int .i64 0, .int .i64 0] 47) := by unfold wB; rw [hsz, hw1]
  obtain ⟨w2, hw2⟩ : ∃ w2, w2 = wB s w1 := ⟨_, rfl⟩
  rw [← hw2] at hM0
  rw [← hw2] at hwB
  have hbd : BdN m0 := m0_bdN
  go_enter Tryd.func12, Tryd.ntmps12
  go_wp2
  rw [← hwB, ← hR]
  have HW1 := Lib.hid hw1
  have HS1 := Lib.hid hsz
  have HBB := Lib.hid hB1
  clear hwB hw2 hw1 hsz hB1 hR1 hR hB
  go_loopg [] (s.size + 1) (fun gg wr => ∃ m, s.size - m.sc.at_ + 1 ≤ gg ∧ MI w1 wr B R s m ∧ BdN m ∧ Hid (runF s m = runF s m0))
  case atStart => exact ⟨m0, by show s.size - 0 + 1 ≤ _; omega, hM0, hbd, Lib.hid rfl⟩
  case round =>
    obtain ⟨m, hgg, hM, hbm, hrm⟩ := hrel
    clear hM0 hbd
    have hEnd : ∃ lv, RdB wr R s lv m.sc := by obtain ⟨⟨lv, own, pre, e, hR, _⟩, _⟩ := hM; exact ⟨lv, hR⟩
    obtain ⟨lv, hRd⟩ := hEnd
    obtain ⟨c0, c1, c2, c3, c4⟩ := hRd.cells
    by_cases hg : m.sc.e = 0
    · have hE := end_any R s lv m.sc wr hRd
      rw [hg] at c4
      by_cases hl : m.sc.at_ < s.size
      · rw [decide_eq_false (by omega)] at hE
        go_wp2_with fail
        refine hE.mono ?_
        rintro e wE ⟨rfl, n, hwE⟩
        have hME := hM.drewN n
        rw [← hwE] at hME
        have hgo : goes s m.sc := ⟨hg, hl⟩
        have hst := step_any w1 B R s m wE hgo hbm.1.1 (by have := hbm.1.2; omega) hME
        have hbm' := step_bdN hgo hbm
        have hat := (step_at hgo).1
        have hat2 := (step_at hgo).2
        have hrm' : Hid (runF s (stepM s m) = runF s m0) := Lib.hid ((runF_go hgo).symm.trans hrm.out)
        generalize stepM s m = m' at hst hbm' hat hat2 hrm'
        clear hE hwE hM hME c0 c1 c2 c3 c4 hRd
        go_wp2_with fail
        refine hst.mono ?_
        rintro x w9 ⟨rfl, hM9⟩
        go_wp2
        go_roundg (s.size - m'.sc.at_ + 1)
        case measure => omega
        case rel => exact ⟨m', Nat.le_refl _, hM9, hbm', hrm'⟩
      · rw [decide_eq_true (by omega)] at hE
        have hstop : Hid (m = runF s m0) := Lib.hid ((runF_stop (goes_not (.inr (by omega)))).symm.trans hrm.out)
        go_wp2_with fail
        refine hE.mono ?_
        rintro e wS ⟨rfl, n, hwE⟩
        have hMS := hM.drewN n
        rw [← hwE] at hMS
        clear hE hwE hM c0 c1 c2 c3 c4 hRd hrm hgg
        obtain ⟨⟨lv', own, pre, e, hR, hL, he, hp⟩, hbel, hbR, hbs⟩ := hMS
        obtain ⟨L, cap, hlv, hL1, hL2, hL3, hL4, hL5, l0, l1, fl0, fl1⟩ := hL.cells
        obtain ⟨c0, c1, c2, c3, c4⟩ := hR.cells
        rw [hlv] at c2
        rw [hg] at c4
        cases pre with
        | cons p0 pre =>
          have hF := fail_any R s lv' m.sc wS m.sc.at_ 2 hR
          have hfl : m.sc.fail m.sc.at_ 2 = ⟨m.sc.at_, m.sc.at_, 2⟩ := by unfold Sc.fail; rw [if_pos hg]
          have hend : endM m = ⟨m.sc.at_, m.sc.at_, 2⟩ := by
            unfold endM
            split
            · rename_i h0
              rw [h0] at hp
              cases hp
            · exact hfl
          have hans : parseS s = ⟨zN, m.sc.at_, 2⟩ := parse_err hs hstop.out (by decide) (by rw [hend]) (by rw [hend])
          rw [hfl] at hF
          obtain ⟨n, hn⟩ : ∃ n, n = pre.length := ⟨_, rfl⟩
          rw [List.length_cons, ← hn] at c2
          have h1 : (1 : Int) < (n : Int) + 1 + 1 := by omega
          obtain ⟨p, hpp⟩ : ∃ p, p = m.sc.at_ := ⟨_, rfl⟩
          rw [← hpp] at hF hans c1
          have HB := Lib.hid hbel
          have HA := Lib.hid hans
          clear l0 l1 fl0 fl1 hL hp hfl hend hpp hn hL4 hR hlv hans hbel
          go_wp2_with fail
          refine hF.mono ?_
          rintro x wF ⟨rfl, hRF, hfF⟩
          obtain ⟨d0, d1, d2, d3, d4⟩ := hRF.cells
          dsimp only at d3 d4
          have hB2 : Below B w1 wF := HB.out.trans (hfF.below hbs hbR)
          have hres1 : w1.heap[w.heap.size]? = some (.cells zcs 27) := by rw [HW1.out]; exact heap_alloc_new w _
          have hBB := HBB.out
          have hres : wF.heap[w.heap.size]? = some (.cells zcs 27) := (hB2.block _ (by have := HS1.out; omega)).trans hres1
          have v0 := blk_cell hres 0
          have v1 := blk_cell hres 1
          have v2 := blk_cell hres 2
          have v3 := blk_cell hres 3
          have v4 := blk_cell hres 4
          have v5 := blk_cell hres 5
          have v6 := blk_cell hres 6
          have v7 := blk_cell hres 7
          have q0 := blk_frozen hres 0
          have q1 := blk_frozen hres 1
          have q2 := blk_frozen hres 2
          have q3 := blk_frozen hres 3
          have q4 := blk_frozen hres 4
          have q5 := blk_frozen hres 5
          have q6 := blk_frozen hres 6
          have q7 := blk_frozen hres 7
          have n1 : ¬ R = w.heap.size := by have := HS1.out; omega
          have n2 : ¬ w.heap.size = R := fun e => n1 e.symm
          have HRES := Lib.hid hres
          have HB3 := Lib.hid hB2
          clear hF c0 c1 c2 c3 c4 hRF hfF hres1 hres hB2 hBB
          go_wp2
          go_region
          have hZ := blk_set8d (a := .int .i64 0) (b := .int .u64 0) (c := .int .u64 0) (d := .int .u64 0) (e := .int .u64 0) (f := .slice none 0 0) (p := .int .i64 0) (q := .int .i64 0) HRES.out
          have hBl := below_res (x0 := .int .i64 0) (x1 := .int .u64 0) (x2 := .int .u64 0) (x3 := .int .u64 0) (x4 := .int .u64 0) (x5 := .slice none 0 0) (x6 := .int .i64 0) (x7 := .int .i64 0) HW1.out HBB.out HB3.out
          clear d0 d1 d2 d3 d4 v0 v1 v2 v3 v4 v5 v6 v7 q0 q1 q2 q3 q4 q5 q6 q7
          generalize World.drew _ = wZ at hZ hBl ⊢
          go_wp2
          refine post_row_two (g := w.heap.size) (cs := zcs) (t := 27) (fr := (0, 0)) (x := .int .i64 p) (y := .int .i64 2) Tryd.results12 rfl hZ Tryd.underlying27 (by rfl) (by kernel_rfl) rfl rfl rfl ?_
          exact pans_zero HA.out hBl
        | nil =>
          have hrest : m.rest = [] := List.reverse_eq_nil_iff.1 (show m.rest.reverse = [] from hp.symm)
          have hend : endM m = m.sc := by unfold endM; rw [hrest]
          have hans := parse_end hs hstop.out (by rw [hend]; exact hg)
          have c2' : wS.cell? ⟨R, 2, none⟩ = some (.slice (some ⟨L, 0, none⟩) 1 cap) := c2
          have hL4' : 0 + 1 ≤ cap := hL4
          have hat4 : m.sc.at_ ≤ 400 := by have := hR.hat; omega
          have hbe := hbm.1.1 m.top (List.mem_cons_self ..)
          have htot := hbm.2
          have hcnt : cntT m.top.done ≤ 1000000 := by
            have := cnt_done m.top
            unfold tot at htot
            omega
          rw [← he] at hbe
          have hCl : ∀ j, Calls Tryd.prog 26 #[.pointer (some ⟨L, 0, none⟩)] (wS.drewN j) fun x w' => x = .returned (.tuple #[]) ∧ ∃ own' e', e'.lv = e.lv.close ∧ RdB w' R s lv' m.sc ∧ LvI w' B R lv' own' ([] ++ [e']) ∧ Below B (wS.drewN j) w' :=
            fun j => close_any R s lv' m.sc (wS.drewN j) B own [] e L cap (hR.drewN j) (hL.fr (fr_drewN' wS.heap.size R wS j)) hbs (by omega) (by omega) hlv
          have HB := Lib.hid hbel
          have HA := Lib.hid hans
          have HC := Lib.hid hcnt
          have HLV := Lib.hid hlv
          have HE := Lib.hid (show oneN 3 e.lv.close.rows = m.top.done by rw [he]; rfl)
          obtain ⟨sc, hsc⟩ : ∃ sc, sc = m.sc := ⟨_, rfl⟩
          rw [← hsc] at hCl
          obtain ⟨dn, hdn⟩ : ∃ dn, dn = m.top.done := ⟨_, rfl⟩
          rw [← hdn] at HA HC HE
          clear l0 l1 fl0 fl1 hL hp hend hbe htot c0 c1 c2 c3 hR hbel hans hcnt hrest hL4 hat4 hlv he hstop hbm hsc hdn
          go_wp2_with fail
          refine (top0 R L cap _ c2' hL4' hL5).mono ?_
          rintro x w3 ⟨rfl, m1, rfl⟩
          go_wp2_with fail
          refine (hCl m1).mono ?_
          rintro x w4 ⟨rfl, own1, e1, he1, hR2, hL2, hb2⟩
          have hb4 : Below B w1 w4 := (HB.out.trans (⟨rfl, rfl, rfl, Nat.le_refl _, fun _ _ => rfl⟩ : Below B wS (wS.drewN m1))).trans hb2
          have hc3 := hR2.cells.2.2.1
          rw [HLV.out] at hc3
          have hc3' : w4.cell? ⟨R, 2, none⟩ = some (.slice (some ⟨L, 0, none⟩) 1 cap) := hc3
          clear hCl c2' c4 hb2 hc3
          go_wp2_with fail
          refine (top0 R L cap _ hc3' hL4' hL5).mono ?_
          rintro x w5 ⟨rfl, m3, rfl⟩
          have hL3' := hL2.fr (fr_drewN' w4.heap.size R w4 m3)
          have hb5 : Below B w1 (w4.drewN m3) := hb4.trans ⟨rfl, rfl, rfl, Nat.le_refl _, fun _ _ => rfl⟩
          clear hR2 hL2 hb4 hc3'
          generalize w4.drewN m3 = w5 at *
          obtain ⟨L', cap', hlv', _, hLs, _, _, _, k0, k1, kf0, kf1⟩ := hL3'.cells
          rw [HLV.out] at hlv'
          injection hlv' with hv1 _ hv2
          injection hv1 with hv1
          injection hv1 with hv1 _ _
          subst hv1 hv2
          have k0' : w5.cell? ⟨L, 0, none⟩ = some e1.v0 := k0
          obtain ⟨rw0, rw1⟩ := hL3'.top
          have hlow := hL3'.low w.heap.size (by have := HS1.out; have := HBB.out; omega)
          have hnew := hL3'.new
          obtain ⟨A0, cc0, hv0, hc0, hF0⟩ := rw0.freeze (own1 := ownP own1 0) (fun i _ h => by unfold ownP; rw [h]; simp) (fun i _ h => by unfold ownP; exact if_pos (.inl h))
          rw [hv0] at k0'
          have hone := one_q 3 (ownP own1 0) A0 cc0 e1.lv.rows w5 hc0 hF0
          have hdone : oneN 3 e1.lv.rows = dn := by rw [he1]; exact HE.out
          have HD := Lib.hid hdone
          have HLW : Hid (ownP own1 0 w.heap.size ≠ none) := Lib.hid (by unfold ownP; rw [hlow.2]; simp)
          have HNW : Hid (∀ k, w5.heap.size ≤ k → ownP own1 0 k = none) := Lib.hid (fun k hk => by unfold ownP; rw [hnew k hk]; simp)
          have HB5 := Lib.hid hb5
          clear rw0 rw1 hv0 hF0 hdone hL3' he1 k0 k1 kf0 kf1 hlow hnew hb5
          generalize e1.lv.rows = rows at *
          go_wp2_with fail
          refine hone.mono ?_
          rintro x w6 ⟨q, hq, rfl, b6, hnd⟩
          have hq6 := hnd (ownP own1 0) (fun _ _ h => h) HNW.out
          have hb6 : Below B w1 w6 := HB5.out.trans (b6.mono (by have := HBB.out; have := HB5.out.size; omega))
          clear hone hnd k0'
          obtain ⟨⟨tk, ⟨t0, t1, t2, t3⟩, tps, tlo, thi⟩, tA, tc⟩ := q
          have hx := hq.out.trans HD.out
          dsimp only at hx
          have hsz6 : B ≤ w6.heap.size := by have := HBB.out; have := hb6.size; omega
          obtain ⟨w7, hw7⟩ : ∃ w7, w7 = w6.alloc (.cells #[.int .i64 tk, .int .u64 t0, .int .u64 t1, .int .u64 t2, .int .u64 t3, .slice tA tps.length tc, .int .i64 tlo, .int .i64 thi] 27) := ⟨_, rfl⟩
          have b7 : Below w6.heap.size w6 w7 := by rw [hw7]; exact box_belowS _ _
          have hblk : w7.heap[w6.heap.size]? = some (.cells #[.int .i64 tk, .int .u64 t0, .int .u64 t1, .int .u64 t2, .int .u64 t3, .slice tA tps.length tc, .int .i64 tlo, .int .i64 thi] 27) := by rw [hw7]; exact heap_alloc_new w6 _
          have hq7 := hq6.keep (⟨b7.size, fun k hk _ => b7.block k hk, fun _ _ h => h⟩ : Keeps w6 w7 (ownP own1 0) (ownP own1 0))
          have hb7 : Below B w1 w7 := hb6.trans (b7.mono hsz6)
          have hdep := sy_depth ⟨tk, ⟨t0, t1, t2, t3⟩, tps, tlo, thi⟩ tA tc w7 (by rw [hx]; exact HC.out) hq7.now hq7.cap
          unfold ndV at hdep
          obtain ⟨n0, n1, n2, n3, n4, n5, n6, n7⟩ := n_cells hblk
          obtain ⟨dd, hdd⟩ : ∃ dd, dd = depthT ⟨tk, ⟨t0, t1, t2, t3⟩, tps, tlo, thi⟩ := ⟨_, rfl⟩
          obtain ⟨pp, hpp⟩ : ∃ pp, pp = placesT ⟨tk, ⟨t0, t1, t2, t3⟩, tps, tlo, thi⟩ := ⟨_, rfl⟩
          rw [← hdd] at hdep
          have HP0 := Lib.hid hpp
          rw [hx] at hdd hpp
          have HX := Lib.hid hx
          have HDD := Lib.hid hdd
          have HPP := Lib.hid hpp
          have HQ7 := Lib.hid hq7
          have HB7 := Lib.hid hb7
          have HBK := Lib.hid hblk
          obtain ⟨G, hG⟩ : ∃ G, G = w6.heap.size := ⟨_, rfl⟩
          have hGlt : G < w7.heap.size := by rw [hG]; exact blk_lt hblk
          clear hq hx hdd hpp hq6 hq7 b6 b7 hb6 hb7 hblk
          go_wp2_with fail
          rw [← hw7]
          clear hw7
          refine hdep.mono ?_
          rintro x w8 ⟨rfl, b8⟩
          have hblk8 := (b8.block w6.heap.size (by rw [← hG]; exact hGlt)).trans HBK.out
          have hq8 := HQ7.out.keep (⟨b8.size, fun k hk _ => b8.block k hk, fun _ _ h => h⟩ : Keeps w7 w8 (ownP own1 0) (ownP own1 0))
          have hb8 : Below B w1 w8 := HB7.out.trans (b8.mono (by omega))
          have HQ8 := Lib.hid hq8
          have HB8 := Lib.hid hb8
          have HBK8 := Lib.hid hblk8
          clear n0 n1 n2 n3 n4 n5 n6 n7 hdep hq8 hb8 hblk8
          by_cases hdp : (20 : Int) < (dd : Int)
          · have hans : parseS s = ⟨zN, 0, 3⟩ := by
              rw [HA.out, if_pos]
              exact .inl (by have := HDD.out; omega)
            have hres : w8.heap[w.heap.size]? = some (.cells zcs 27) := (HB8.out.block _ (by have := HS1.out; have := HBB.out; omega)).trans (by rw [HW1.out]; exact heap_alloc_new w _)
            have HRES := Lib.hid hres
            have v0 := blk_cell hres 0
            have v1 := blk_cell hres 1
            have v2 := blk_cell hres 2
            have v3 := blk_cell hres 3
            have v4 := blk_cell hres 4
            have v5 := blk_cell hres 5
            have v6 := blk_cell hres 6
            have v7 := blk_cell hres 7
            have q0 := blk_frozen hres 0
            have q1 := blk_frozen hres 1
            have q2 := blk_frozen hres 2
            have q3 := blk_frozen hres 3
            have q4 := blk_frozen hres 4
            have q5 := blk_frozen hres 5
            have q6 := blk_frozen hres 6
            have q7 := blk_frozen hres 7
            clear hres
            go_wp2_with fail
            refine post_row_two (g := w.heap.size) (cs := zcs) (t := 27) (fr := (0, 0)) (x := .int .i64 0) (y := .int .i64 3) Tryd.results12 rfl (blk_set8 HRES.out) Tryd.underlying27 (by rfl) (by kernel_rfl) rfl rfl rfl ?_
            exact pans_zero hans (below_resN HW1.out HBB.out HB8.out)
          · have hpl := sy_places ⟨tk, ⟨t0, t1, t2, t3⟩, tps, tlo, thi⟩ tA tc w8 (by rw [HX.out]; exact HC.out) HQ8.out.now HQ8.out.cap
            unfold ndV at hpl
            rw [← HP0.out] at hpl
            obtain ⟨n0, n1, n2, n3, n4, n5, n6, n7⟩ := n_cells HBK8.out
            go_wp2_with fail
            refine hpl.mono ?_
            rintro x w9 ⟨rfl, b9⟩
            have hblk9 := (b9.block w6.heap.size (by have := b8.size; omega)).trans HBK8.out
            have hq9 := HQ8.out.keep (⟨b9.size, fun k hk _ => b9.block k hk, fun _ _ h => h⟩ : Keeps w8 w9 (ownP own1 0) (ownP own1 0))
            have hb9 : Below B w1 w9 := HB8.out.trans (b9.mono (by have := b8.size; omega))
            have hres : w9.heap[w.heap.size]? = some (.cells zcs 27) := (hb9.block _ (by have := HS1.out; have := HBB.out; omega)).trans (by rw [HW1.out]; exact heap_alloc_new w _)
            have HRES := Lib.hid hres
            have HQ9 := Lib.hid hq9
            have HB9 := Lib.hid hb9
            have hne : ¬ w6.heap.size = w.heap.size := by have := HS1.out; have := HBB.out; omega
            have hne2 : ¬ w.heap.size = w6.heap.size := fun e => hne e.symm
            clear n0 n1 n2 n3 n4 n5 n6 n7 hpl hq9 hb9
            obtain ⟨n0, n1, n2, n3, n4, n5, n6, n7⟩ := n_cells hblk9
            have v0 := blk_cell hres 0
            have v1 := blk_cell hres 1
            have v2 := blk_cell hres 2
            have v3 := blk_cell hres 3
            have v4 := blk_cell hres 4
            have v5 := blk_cell hres 5
            have v6 := blk_cell hres 6
            have v7 := blk_cell hres 7
            have q0 := blk_frozen hres 0
            have q1 := blk_frozen hres 1
            have q2 := blk_frozen hres 2
            have q3 := blk_frozen hres 3
            have q4 := blk_frozen hres 4
            have q5 := blk_frozen hres 5
            have q6 := blk_frozen hres 6
            have q7 := blk_frozen hres 7
            clear hres hblk9
            by_cases hpz : (40 : Int) < (pp : Int)
            · have hans : parseS s = ⟨zN, 0, 3⟩ := by
                rw [HA.out, if_pos]
                exact .inr (by have := HPP.out; omega)
              go_wp2_with fail
              refine post_row_two (g := w.heap.size) (cs := zcs) (t := 27) (fr := (0, 0)) (x := .int .i64 0) (y := .int .i64 3) Tryd.results12 rfl (blk_set8 HRES.out) Tryd.underlying27 (by rfl) (by kernel_rfl) rfl rfl rfl ?_
              exact pans_zero hans (below_resN HW1.out HBB.out HB9.out)
            · have hans : parseS s = ⟨⟨tk, ⟨t0, t1, t2, t3⟩, tps, tlo, thi⟩, 0, 0⟩ := by
                rw [HA.out, if_neg, HX.out]
                rintro (h | h)
                · have := HDD.out; omega
                · have := HPP.out; omega
              go_wp2_with fail
              refine post_row_two (g := w.heap.size) (cs := #[.int .i64 tk, .int .u64 t0, .int .u64 t1, .int .u64 t2, .int .u64 t3, .slice tA tps.length tc, .int .i64 tlo, .int .i64 thi]) (t := 27) (fr := (0, 0)) (x := .int .i64 0) (y := .int .i64 0) Tryd.results12 rfl (blk_set8 HRES.out) Tryd.underlying27 (by rfl) (by kernel_rfl) rfl rfl rfl ?_
              have hbF := below_resN (x0 := .int .i64 tk) (x1 := .int .u64 t0) (x2 := .int .u64 t1) (x3 := .int .u64 t2) (x4 := .int .u64 t3) (x5 := .slice tA tps.length tc) (x6 := .int .i64 tlo) (x7 := .int .i64 thi) HW1.out HBB.out HB9.out
              have hfar := far_resN w9 w.heap.size (.int .i64 tk) (.int .u64 t0) (.int .u64 t1) (.int .u64 t2) (.int .u64 t3) (.slice tA tps.length tc) (.int .i64 tlo) (.int .i64 thi)
              have hqF := HQ9.out.keep (⟨hfar.1, fun k hk ho => hfar.2 k (fun e => HLW.out (by rw [← e]; exact ho)), fun _ _ h => h⟩ : Keeps w9 _ (ownP own1 0) (ownP own1 0))
              refine ⟨tA, tc, ?_, ?_, ?_, hbF⟩
              · rw [hans]; rfl
              · rw [hans]; exact hqF.cap
              · rw [hans]; exact hqF.now
    · have hz : (m.sc.e == 0) = false := by simp [hg]
      have hz2 : (m.sc.e != 0) = true := by simp [hg]
      have hstop : m = runF s m0 := (runF_stop (goes_not (.inl hg))).symm.trans hrm.out
      clear c0 c1 c2 c3 c4 hRd hrm hgg
      obtain ⟨⟨lv', own, pre, e, hR, hL, he, hp⟩, hbel, hbR, hbs⟩ := hM
      obtain ⟨L, cap, hlv, hL1, hL2, hL3, hL4, hL5, l0, l1, fl0, fl1⟩ := hL.cells
      have hfl : m.sc.fail m.sc.at_ 2 = m.sc := fail_ne hg _ _
      have hend : endM m = m.sc := by
        unfold endM
        split
        · rfl
        · exact hfl
      have hans : parseS s = ⟨zN, m.sc.pl, m.sc.e⟩ := parse_err hs hstop hg (by rw [hend]) (by rw [hend])
      have hF := fail_any R s lv' m.sc wr m.sc.at_ 2 hR
      rw [hfl] at hF
      obtain ⟨c0, c1, c2, c3, c4⟩ := hR.cells
      rw [hlv] at c2
      obtain ⟨p, hpp⟩ : ∃ p, p = m.sc.at_ := ⟨_, rfl⟩
      obtain ⟨pp, hpl⟩ : ∃ pp, pp = m.sc.pl := ⟨_, rfl⟩
      obtain ⟨ee, hee⟩ : ∃ ee, ee = m.sc.e := ⟨_, rfl⟩
      rw [← hpl, ← hee] at hans
      rw [← hpp] at hF c1
      rw [← hpl] at c3
      rw [← hee] at c4 hz hz2 hg
      have HB := Lib.hid hbel
      have HA := Lib.hid hans
      have HPL := Lib.hid hpl
      have HEE := Lib.hid hee
      clear l0 l1 fl0 fl1 hL hp hfl hend hpp hpl hee hL4 hR hlv hans hbel hstop
      cases pre with
      | cons p0 pre =>
        obtain ⟨n, hn⟩ : ∃ n, n = pre.length := ⟨_, rfl⟩
        rw [List.length_cons, ← hn] at c2
        have h1 : (1 : Int) < (n : Int) + 1 + 1 := by omega
        clear hn
        go_wp2_with fail
        refine hF.mono ?_
        rintro x wF ⟨rfl, hRF, hfF⟩
        obtain ⟨d0, d1, d2, d3, d4⟩ := hRF.cells
        rw [← HPL.out] at d3
        rw [← HEE.out] at d4
        have hB2 : Below B w1 wF := HB.out.trans (hfF.below hbs hbR)
        have hres1 : w1.heap[w.heap.size]? = some (.cells zcs 27) := by rw [HW1.out]; exact heap_alloc_new w _
        have hBB := HBB.out
        have hres : wF.heap[w.heap.size]? = some (.cells zcs 27) := (hB2.block _ (by have := HS1.out; omega)).trans hres1
        have v0 := blk_cell hres 0
        have v1 := blk_cell hres 1
        have v2 := blk_cell hres 2
        have v3 := blk_cell hres 3
        have v4 := blk_cell hres 4
        have v5 := blk_cell hres 5
        have v6 := blk_cell hres 6
        have v7 := blk_cell hres 7
        have q0 := blk_frozen hres 0
        have q1 := blk_frozen hres 1
        have q2 := blk_frozen hres 2
        have q3 := blk_frozen hres 3
        have q4 := blk_frozen hres 4
        have q5 := blk_frozen hres 5
        have q6 := blk_frozen hres 6
        have q7 := blk_frozen hres 7
        have n1 : ¬ R = w.heap.size := by have := HS1.out; omega
        have n2 : ¬ w.heap.size = R := fun e => n1 e.symm
        have HRES := Lib.hid hres
        have HB3 := Lib.hid hB2
        clear hF c0 c1 c2 c3 c4 hRF hfF hres1 hres hB2 hBB
        go_wp2
        go_region
        have hZ := blk_set8d (a := .int .i64 0) (b := .int .u64 0) (c := .int .u64 0) (d := .int .u64 0) (e := .int .u64 0) (f := .slice none 0 0) (p := .int .i64 0) (q := .int .i64 0) HRES.out
        have hBl := below_res (x0 := .int .i64 0) (x1 := .int .u64 0) (x2 := .int .u64 0) (x3 := .int .u64 0) (x4 := .int .u64 0) (x5 := .slice none 0 0) (x6 := .int .i64 0) (x7 := .int .i64 0) HW1.out HBB.out HB3.out
        clear d0 d1 d2 d3 d4 v0 v1 v2 v3 v4 v5 v6 v7 q0 q1 q2 q3 q4 q5 q6 q7
        generalize World.drew _ = wZ at hZ hBl ⊢
        go_wp2
        refine post_row_two (g := w.heap.size) (cs := zcs) (t := 27) (fr := (0, 0)) (x := .int .i64 pp) (y := .int .i64 ee) Tryd.results12 rfl hZ Tryd.underlying27 (by rfl) (by kernel_rfl) rfl rfl rfl ?_
        exact pans_zero HA.out hBl
      | nil =>
        have hB2 : Below B w1 wr := HB.out
        have hres1 : w1.heap[w.heap.size]? = some (.cells zcs 27) := by rw [HW1.out]; exact heap_alloc_new w _
        have hBB := HBB.out
        have hres : wr.heap[w.heap.size]? = some (.cells zcs 27) := (hB2.block _ (by have := HS1.out; omega)).trans hres1
        have v0 := blk_cell hres 0
        have v1 := blk_cell hres 1
        have v2 := blk_cell hres 2
        have v3 := blk_cell hres 3
        have v4 := blk_cell hres 4
        have v5 := blk_cell hres 5
        have v6 := blk_cell hres 6
        have v7 := blk_cell hres 7
        have q0 := blk_frozen hres 0
        have q1 := blk_frozen hres 1
        have q2 := blk_frozen hres 2
        have q3 := blk_frozen hres 3
        have q4 := blk_frozen hres 4
        have q5 := blk_frozen hres 5
        have q6 := blk_frozen hres 6
        have q7 := blk_frozen hres 7
        have n1 : ¬ R = w.heap.size := by have := HS1.out; omega
        have n2 : ¬ w.heap.size = R := fun e => n1 e.symm
        have HRES := Lib.hid hres
        have HB3 := Lib.hid hB2
        clear hres1 hres hB2 hBB
        go_wp2
        go_region
        have hZ := blk_set8d (a := .int .i64 0) (b := .int .u64 0) (c := .int .u64 0) (d := .int .u64 0) (e := .int .u64 0) (f := .slice none 0 0) (p := .int .i64 0) (q := .int .i64 0) HRES.out
        have hBl := below_res (x0 := .int .i64 0) (x1 := .int .u64 0) (x2 := .int .u64 0) (x3 := .int .u64 0) (x4 := .int .u64 0) (x5 := .slice none 0 0) (x6 := .int .i64 0) (x7 := .int .i64 0) HW1.out HBB.out HB3.out
        clear c0 c1 c2 c3 c4 v0 v1 v2 v3 v4 v5 v6 v7 q0 q1 q2 q3 q4 q5 q6 q7
        generalize World.drew _ = wZ at hZ hBl ⊢
        go_wp2
        refine post_row_two (g := w.heap.size) (cs := zcs) (t := 27) (fr := (0, 0)) (x := .int .i64 pp) (y := .int .i64 ee) Tryd.results12 rfl hZ Tryd.underlying27 (by rfl) (by kernel_rfl) rfl rfl rfl ?_
        exact pans_zero HA.out hBl
end
end Go.Proofs.YtaohlmcgaggoeaaDoor.P
/- The same trees: plain (where the program's own function isn't in the seat). -/
namespace Go.Proofs.YtaohlmcgaggoeaaDoor.P
open Go.RowKit Go.Proofs.YtaohlmcgaggoeaaDoor
set_option linter.unusedVariables false
mutual
def sameT : S27 → S27 → Bool
  | ⟨k, s, ps, lo, hi⟩, y => k == y.f0 && (s.f0 == y.f1.f0 && (s.f1 == y.f1.f1 && (s.f2 == y.f1.f2 && s.f3 == y.f1.f3))) && lo == y.f3 && hi == y.f4 && sameL ps y.f2
def sameL : List S27 → List S27 → Bool
  | [], l => l.isEmpty
  | p :: ps, l => match l with
    | [] => false
    | q :: qs => sameT p q && sameL ps qs
end
mutual
theorem sameT_iff : ∀ (x y : S27), sameT x y = true ↔ x = y
  | ⟨k, ⟨s0, s1, s2, s3⟩, ps, lo, hi⟩, ⟨k', ⟨t0, t1, t2, t3⟩, qs, lo', hi'⟩ => by
    rw [sameT]
    simp only [Bool.and_eq_true, beq_iff_eq, sameL_iff ps qs, S27.mk.injEq, S24.mk.injEq]
    constructor
    · rintro ⟨⟨⟨⟨a, b⟩, c⟩, d⟩, e⟩; exact ⟨a, b, e, c, d⟩
    · rintro ⟨a, b, e, c, d⟩; exact ⟨⟨⟨⟨a, b⟩, c⟩, d⟩, e⟩
theorem sameL_iff : ∀ (x y : List S27), sameL x y = true ↔ x = y
  | [], l => by cases l <;> simp [sameL]
  | p :: ps, l => by
    cases l with
    | nil => simp [sameL]
    | cons q qs => rw [sameL]; simp only [Bool.and_eq_true, sameT_iff p q, sameL_iff ps qs, List.cons.injEq]
end
theorem sameL_len (xs ys : List S27) (h : ¬ xs.length = ys.length) : sameL xs ys = false := by
  rw [Bool.eq_false_iff, Ne, sameL_iff]
  rintro rfl
  exact h rfl
end Go.Proofs.YtaohlmcgaggoeaaDoor.P
/- Plain laws of trees: what the reference's functions on trees come to. -/
namespace Go.Proofs.YtaohlmcgaggoeaaDoor.P
open Go.RowKit Go.Proofs.YtaohlmcgaggoeaaDoor Go.Proofs.YtaohlmcgaggoeaaDoorW.PrintWords Go.Proofs.YtaohlmcgaggoeaaDoorW.PrintLast Go.Proofs.YtaohlmcgaggoeaaDoorW.PrintMore
set_option linter.unusedVariables false
set_option linter.unusedSimpArgs false
theorem cntT_eq (x : T) : cntT x = 1 + cntL x.f2 := by cases x; rw [cntT]
/-! #### how many nodes -/
abbrev sizeF (k : Nat) (x : S27) (m : Int) : Option Int := ostinatoref02_Size.f k x.f0 x.f1.f0 x.f1.f1 x.f1.f2 x.f1.f3 x.f2 x.f3 x.f4 m
theorem size_ev (n : Nat) : ∀ (x : S27) (m : Int), SizeOf.sizeOf x < n → 0 ≤ m → m ≤ 1000000 → ∃ s : Int, Ev (fun k => sizeF k x m) s ∧ 1 ≤ s ∧ s ≤ m + 1 ∧ ((s ≤ m ∨ (cntT x : Int) ≤ m) → s = cntT x) := by
  induction n with
  | zero => intro x m h; omega
  | succ n ih =>
    intro x m hn h0 h1
    obtain ⟨a, ⟨b0, b1, b2, b3⟩, ps, lo, hi⟩ := x
    have hm : ∀ p ∈ ps, SizeOf.sizeOf p < n := fun p hp => by have := mem_lt (t := ⟨a, ⟨b0, b1, b2, b3⟩, ps, lo, hi⟩) hp; omega
    have loop : ∀ (d i : Nat) (s : Int), ps.length - i = d → i ≤ ps.length → (i : Int) < s → s ≤ m + 1 → ∃ r : Int, Ev (fun k => ostinatoref02_Size.l0 k m s (i : Int) a b0 b1 b2 b3 ps lo hi) r ∧ s ≤ r ∧ r ≤ m + 1 ∧ ((r ≤ m ∨ s + (cntL (ps.drop i) : Int) ≤ m) → r = s + cntL (ps.drop i)) := by
      intro d
      induction d with
      | zero =>
        intro i s hd hi' hs hs1
        refine ⟨s, Ev.step (f := fun _ => some s) (fun k => ?_) (Ev.now s), by omega, hs1, fun _ => ?_⟩
        · simp only [ostinatoref02_Size.l0]
          rw [if_neg (by omega)]
        · rw [show i = ps.length by omega, List.drop_length]; simp [cntL]
      | succ d ihd =>
        intro i s hd hi' hs hs1
        have hlt : i < ps.length := by omega
        by_cases hsm : s ≤ m
        · obtain ⟨s', hs', q1, q2, q3⟩ := ih ps[i] (m - s) (hm _ (List.getElem_mem hlt)) (by omega) (by omega)
          obtain ⟨r, hr, r1, r2, r3⟩ := ihd (i + 1) (s + s') (by omega) (by omega) (by omega) (by omega)
          have hc : cntL (ps.drop i) = cntT ps[i] + cntL (ps.drop (i + 1)) := by rw [dropN ps i hlt, cntL]
          refine ⟨r, Ev.step (f := fun k => (sizeF k ps[i] (m - s)).bind fun t => ostinatoref02_Size.l0 k m (wrap64 (s + t)) ((i + 1 : Nat) : Int) a b0 b1 b2 b3 ps lo hi) (fun k => ?_) (Ev.bind hs' ?_), by omega, r2, fun h => ?_⟩
          · simp only [ostinatoref02_Size.l0]
            rw [if_pos (by omega), if_pos hsm, if_pos (by omega), rdN ps i hlt, wrapI (by omega) (by omega), wrapI (n := (i : Int) + 1) (by omega) (by omega)]
            rfl
          · show Ev (fun k => ostinatoref02_Size.l0 k m (wrap64 (s + s')) ((i + 1 : Nat) : Int) a b0 b1 b2 b3 ps lo hi) r
            rw [wrapI (by omega) (by omega)]
            exact hr
          · rw [hc]; rw [hc] at h
            have : s' = cntT ps[i] := q3 (by rcases h with h | h; exact .inl (by omega); exact .inr (by omega))
            have := r3 (by omega)
            omega
        · refine ⟨s, Ev.step (f := fun _ => some s) (fun k => ?_) (Ev.now s), by omega, hs1, fun h => by omega⟩
          simp only [ostinatoref02_Size.l0]
          rw [if_pos (by omega), if_neg hsm]
    obtain ⟨r, hr, r1, r2, r3⟩ := loop ps.length 0 1 (by omega) (by omega) (by omega) (by omega)
    refine ⟨r, Ev.step (f := fun k => ostinatoref02_Size.l0 k m 1 ((0 : Nat) : Int) a b0 b1 b2 b3 ps lo hi) (fun k => ?_) hr, r1, r2, fun h => ?_⟩
    · simp only [sizeF, ostinatoref02_Size.f]; rfl
    · rw [cntT]
      rw [List.drop_zero] at r3
      have := r3 (by rcases h with h | h; exact .inl h; exact .inr (by rw [cntT] at h; omega))
      omega

/-! #### formed -/
abbrev formedF (k : Nat) (x : S27) : Option Bool := ostinatoref02_Formed.f k x.f0 x.f1.f0 x.f1.f1 x.f1.f2 x.f1.f3 x.f2 x.f3 x.f4
theorem formed_head (a b0 b1 b2 b3 lo hi : Int) (ps : List S27) (r : Bool) (h : Ev (fun k => ostinatoref02_Formed.j2 k (shapedB ⟨a, ⟨b0, b1, b2, b3⟩, ps, lo, hi⟩) a b0 b1 b2 b3 ps lo hi) r) : Ev (fun k => formedF k ⟨a, ⟨b0, b1, b2, b3⟩, ps, lo, hi⟩) r := by
  have e0 : ((ps.length : Int) == 0) = (ps.length == 0) := by rw [Bool.eq_iff_iff]; simp
  have e2 : decide ((ps.length : Int) > 1) = decide (2 ≤ ps.length) := by rw [Bool.eq_iff_iff]; simp; omega
  have e1 : ((ps.length : Int) = 1) ↔ (ps.length = 1) := by omega
  have e1' : (ps.length == 1) = decide (ps.length = 1) := by rw [Bool.eq_iff_iff]; simp
  have head : ∀ fr : Bool, fr = (lo == 0 && hi == 0) → Ev (fun k => ostinatoref02_Formed.j0 k (b0 == 0 && (b1 == 0 && (b2 == 0 && b3 == 0))) fr a b0 b1 b2 b3 ps lo hi) r := by
    intro fr hfr
    by_cases k0 : a = 0
    · subst k0
      refine Ev.step (fun k => ?_) h
      simp only [ostinatoref02_Formed.j0, shapedB, emptyB, e0, hfr]
      cases (b0 == 0 && (b1 == 0 && (b2 == 0 && b3 == 0))) <;> cases (lo == 0 && hi == 0) <;> simp
    · by_cases k1 : a = 1
      · subst k1
        refine Ev.step (fun k => ?_) h
        simp only [ostinatoref02_Formed.j0, shapedB, emptyB, e0, hfr]
        cases (lo == 0 && hi == 0) <;> simp
      · by_cases k2 : a = 2
        · subst k2
          refine Ev.step (f := fun k => ostinatoref02_Formed.j1 k (b0 == 0 && (b1 == 0 && (b2 == 0 && b3 == 0))) fr false 2 true 2 b0 b1 b2 b3 ps lo hi) (fun k => by simp [ostinatoref02_Formed.j0]) (Ev.step (fun k => ?_) h)
          simp only [ostinatoref02_Formed.j1, shapedB, emptyB, e2, hfr]
          cases (b0 == 0 && (b1 == 0 && (b2 == 0 && b3 == 0))) <;> cases (lo == 0 && hi == 0) <;> simp
        · by_cases k3 : a = 3
          · subst k3
            refine Ev.step (f := fun k => ostinatoref02_Formed.j1 k (b0 == 0 && (b1 == 0 && (b2 == 0 && b3 == 0))) fr false 3 true 3 b0 b1 b2 b3 ps lo hi) (fun k => by simp [ostinatoref02_Formed.j0]) (Ev.step (fun k => ?_) h)
            simp only [ostinatoref02_Formed.j1, shapedB, emptyB, e2, hfr]
            cases (b0 == 0 && (b1 == 0 && (b2 == 0 && b3 == 0))) <;> cases (lo == 0 && hi == 0) <;> simp
          · have q : Ev (fun k => ostinatoref02_Formed.j1 k (b0 == 0 && (b1 == 0 && (b2 == 0 && b3 == 0))) fr false a false a b0 b1 b2 b3 ps lo hi) r := by
              refine Ev.step (fun k => ?_) h
              by_cases k4 : a = 4
              · subst k4
                simp only [ostinatoref02_Formed.j1, shapedB, emptyB, e1']
                cases (b0 == 0 && (b1 == 0 && (b2 == 0 && b3 == 0)))
                · simp
                · by_cases l1 : ps.length = 1
                  · by_cases g0 : 0 ≤ lo
                    · by_cases g1 : lo ≤ 2147483647
                      · by_cases g2 : hi = -1
                        · subst g2; simp [e1, l1, g0, g1]
                        · have g2' : (hi == -1) = false := by simpa using g2
                          by_cases g3 : hi ≤ 2147483647 <;> by_cases g4 : lo ≤ hi <;> simp [e1, l1, g0, g1, g2, g2', g3, g4]
                      · simp [e1, l1, g0, g1]
                    · simp [e1, l1, g0]
                  · simp [e1, l1]
              · simp [ostinatoref02_Formed.j1, shapedB, k0, k1, k2, k3, k4]
            refine Ev.step (fun k => ?_) q
            have e3 : (a == 3) = false := by simpa using k3
            simp [ostinatoref02_Formed.j0, k0, k1, k2, e3]
  by_cases h3 : lo = 0
  · refine Ev.step (fun k => ?_) (head (hi == 0) (by simp [h3]))
    simp [formedF, ostinatoref02_Formed.f, h3]
  · refine Ev.step (fun k => ?_) (head false (by simp [h3]))
    simp [formedF, ostinatoref02_Formed.f, h3]
theorem formed_ev (n : Nat) : ∀ (x : S27), cntT x < n → cntT x ≤ 1000000 → Ev (fun k => formedF k x) (formedT x) := by
  induction n with
  | zero => intro x h; omega
  | succ n ih =>
    intro x hn hc
    have hx := formedT_eq x
    obtain ⟨a, ⟨b0, b1, b2, b3⟩, ps, lo, hi⟩ := x
    rw [cntT] at hn hc
    refine formed_head a b0 b1 b2 b3 lo hi ps _ ?_
    have loop : ∀ (d i : Nat) (g : Bool), ps.length - i = d → i ≤ ps.length → Ev (fun k => ostinatoref02_Formed.l0 k g (i : Int) a b0 b1 b2 b3 ps lo hi) (g && !((ps.drop i).any fun y => !formedT y)) := by
      intro d
      induction d with
      | zero =>
        intro i g hd hi'
        refine Ev.step (f := fun _ => some g) (fun k => ?_) (by rw [show i = ps.length by omega, List.drop_length]; simpa using Ev.now g)
        simp only [ostinatoref02_Formed.l0]
        rw [if_neg (by omega)]
      | succ d ihd =>
        intro i g hd hi'
        have hlt : i < ps.length := by omega
        cases g with
        | false =>
          refine Ev.step (f := fun _ => some false) (fun k => ?_) (by simpa using Ev.now false)
          simp only [ostinatoref02_Formed.l0]
          rw [if_pos (by omega)]; simp
        | true =>
          have hp := ih ps[i] (by have := cntL_mem (List.getElem_mem hlt); omega) (by have := cntL_mem (List.getElem_mem hlt); omega)
          have hr := ihd (i + 1) (formedT ps[i]) (by omega) (by omega)
          refine Ev.step (f := fun k => (formedF k ps[i]).bind fun t => ostinatoref02_Formed.l0 k t ((i + 1 : Nat) : Int) a b0 b1 b2 b3 ps lo hi) (fun k => ?_) (Ev.bind hp ?_)
          · simp only [ostinatoref02_Formed.l0]
            rw [if_pos (by omega), if_pos trivial, if_pos (by omega), rdN ps i hlt, wrapS i (by have := len_le_cntL ps; omega)]
          · show Ev (fun k => ostinatoref02_Formed.l0 k (formedT ps[i]) ((i + 1 : Nat) : Int) a b0 b1 b2 b3 ps lo hi) _
            have e : (true && !((ps[i] :: ps.drop (i + 1)).any fun y => !formedT y)) = (formedT ps[i] && !((ps.drop (i + 1)).any fun y => !formedT y)) := by simp only [List.any_cons, Bool.not_or, Bool.true_and, Bool.not_not]
            rw [dropN ps i hlt, e]
            exact hr
    refine Ev.step (f := fun k => ostinatoref02_Formed.l0 k (shapedB ⟨a, ⟨b0, b1, b2, b3⟩, ps, lo, hi⟩) ((0 : Nat) : Int) a b0 b1 b2 b3 ps lo hi) (fun k => by simp only [ostinatoref02_Formed.j2]; rfl) ?_
    have := loop ps.length 0 (shapedB ⟨a, ⟨b0, b1, b2, b3⟩, ps, lo, hi⟩) (by omega) (by omega)
    rw [hx]
    simpa using this

/-! #### the same -/
abbrev sameF (k : Nat) (x y : S27) : Option Bool := ostinatoref02_Same.f k x.f0 x.f1.f0 x.f1.f1 x.f1.f2 x.f1.f3 x.f2 x.f3 x.f4 y.f0 y.f1.f0 y.f1.f1 y.f1.f2 y.f1.f3 y.f2 y.f3 y.f4
theorem refSame_ev (n : Nat) : ∀ (x y : S27), cntT x < n → cntT x ≤ 1000000 → Ev (fun k => sameF k x y) (sameT x y) := by
  induction n with
  | zero => intro x y h; omega
  | succ n ih =>
    intro x y hn hc
    obtain ⟨a, ⟨b0, b1, b2, b3⟩, ps, lo, hi⟩ := x
    obtain ⟨a', ⟨c0, c1, c2, c3⟩, qs, lo', hi'⟩ := y
    rw [cntT] at hn hc
    have hs : sameT ⟨a, ⟨b0, b1, b2, b3⟩, ps, lo, hi⟩ ⟨a', ⟨c0, c1, c2, c3⟩, qs, lo', hi'⟩ = (a == a' && (b0 == c0 && (b1 == c1 && (b2 == c2 && b3 == c3))) && lo == lo' && hi == hi' && sameL ps qs) := by rw [sameT]
    have bad : sameT ⟨a, ⟨b0, b1, b2, b3⟩, ps, lo, hi⟩ ⟨a', ⟨c0, c1, c2, c3⟩, qs, lo', hi'⟩ = false → Ev (fun k => ostinatoref02_Same.j0 k true a b0 b1 b2 b3 ps lo hi a' c0 c1 c2 c3 qs lo' hi') (sameT ⟨a, ⟨b0, b1, b2, b3⟩, ps, lo, hi⟩ ⟨a', ⟨c0, c1, c2, c3⟩, qs, lo', hi'⟩) := by
      intro h
      rw [h]
      exact Ev.step (f := fun _ => some false) (fun k => by simp [ostinatoref02_Same.j0]) (Ev.now false)
    have loop : ps.length = qs.length → ∀ (d i : Nat), ps.length - i = d → i ≤ ps.length → Ev (fun k => ostinatoref02_Same.l0 k (i : Int) a b0 b1 b2 b3 ps lo hi a' c0 c1 c2 c3 qs lo' hi') (sameL (ps.drop i) (qs.drop i)) := by
      intro hl d
      induction d with
      | zero =>
        intro i hd hile
        refine Ev.step (f := fun _ => some true) (fun k => ?_) (by rw [show i = ps.length by omega, List.drop_length, hl, List.drop_length]; simpa [sameL] using Ev.now true)
        simp only [ostinatoref02_Same.l0]
        rw [if_neg (by omega)]
      | succ d ihd =>
        intro i hd hile
        have hlt : i < ps.length := by omega
        have hlq : i < qs.length := by omega
        have hp := ih ps[i] qs[i] (by have := cntL_mem (List.getElem_mem hlt); omega) (by have := cntL_mem (List.getElem_mem hlt); omega)
        have hr := ihd (i + 1) (by omega) (by omega)
        refine Ev.step (f := fun k => (sameF k ps[i] qs[i]).bind fun t => if t = true then ostinatoref02_Same.l0 k ((i + 1 : Nat) : Int) a b0 b1 b2 b3 ps lo hi a' c0 c1 c2 c3 qs lo' hi' else some false) (fun k => ?_) (Ev.bind hp ?_)
        · simp only [ostinatoref02_Same.l0]
          rw [if_pos (by omega), if_pos (by omega), if_pos (by omega), rdN ps i hlt, rdN qs i hlq, wrapS i (by have := len_le_cntL ps; omega)]
        · rw [dropN ps i hlt, dropN qs i hlq, sameL]
          cases sameT ps[i] qs[i] with
          | true => simpa using hr
          | false => simpa using Ev.now false
    by_cases k0 : a = a'
    · by_cases k1 : (b0 == c0 && (b1 == c1 && (b2 == c2 && b3 == c3))) = true
      · have k1' : (!(b0 == c0) || (!(b1 == c1) || (!(b2 == c2) || (!(b3 == c3))))) = false := by
          simp only [Bool.and_eq_true] at k1; simp [k1]
        by_cases k2 : lo = lo'
        · by_cases k3 : hi = hi'
          · by_cases hl : ps.length = qs.length
            · have hq := loop hl ps.length 0 (by omega) (by omega)
              rw [hs]
              refine Ev.step (f := fun k => ostinatoref02_Same.j0 k ((ps.length : Int) != (qs.length : Int)) a b0 b1 b2 b3 ps lo hi a' c0 c1 c2 c3 qs lo' hi') (fun k => by simp [sameF, ostinatoref02_Same.f, k0, k1', k2, k3]) ?_
              refine Ev.step (f := fun k => ostinatoref02_Same.l0 k ((0 : Nat) : Int) a b0 b1 b2 b3 ps lo hi a' c0 c1 c2 c3 qs lo' hi') (fun k => by simp [ostinatoref02_Same.j0, hl]) ?_
              simpa [k0, k1, k2, k3] using hq
            · refine Ev.step (f := fun k => ostinatoref02_Same.j0 k true a b0 b1 b2 b3 ps lo hi a' c0 c1 c2 c3 qs lo' hi') (fun k => ?_) (bad (by rw [hs, sameL_len ps qs hl]; simp))
              have : ((ps.length : Int) != (qs.length : Int)) = true := by simp; omega
              simp [sameF, ostinatoref02_Same.f, k0, k1', k2, k3, this]
          · refine Ev.step (f := fun k => ostinatoref02_Same.j0 k true a b0 b1 b2 b3 ps lo hi a' c0 c1 c2 c3 qs lo' hi') (fun k => ?_) (bad (by rw [hs]; simp [k3]))
            simp [sameF, ostinatoref02_Same.f, k0, k1', k2, k3]
        · refine Ev.step (f := fun k => ostinatoref02_Same.j0 k true a b0 b1 b2 b3 ps lo hi a' c0 c1 c2 c3 qs lo' hi') (fun k => ?_) (bad (by rw [hs]; simp [k2]))
          simp [sameF, ostinatoref02_Same.f, k0, k1', k2]
      · have k1' : (!(b0 == c0) || (!(b1 == c1) || (!(b2 == c2) || (!(b3 == c3))))) = true := by
          have := Bool.eq_false_iff.2 k1
          cases h0 : b0 == c0 <;> cases h1 : b1 == c1 <;> cases h2 : b2 == c2 <;> cases h3 : b3 == c3 <;> simp_all
        refine Ev.step (f := fun k => ostinatoref02_Same.j0 k true a b0 b1 b2 b3 ps lo hi a' c0 c1 c2 c3 qs lo' hi') (fun k => ?_) (bad (by rw [hs, Bool.eq_false_iff.2 k1]; simp))
        simp only [sameF, ostinatoref02_Same.f]
        rw [if_pos k0, if_pos k1']
    · refine Ev.step (f := fun k => ostinatoref02_Same.j0 k true a b0 b1 b2 b3 ps lo hi a' c0 c1 c2 c3 qs lo' hi') (fun k => ?_) (bad (by rw [hs]; simp [k0]))
      simp [sameF, ostinatoref02_Same.f, k0]


/-! #### how deep, how many places -/
abbrev placesR (k : Nat) (x : T) : Option Int := ostinatoref02_Places.f k x.f0 x.f1.f0 x.f1.f1 x.f1.f2 x.f1.f3 x.f2 x.f3 x.f4
abbrev depthR (k : Nat) (x : T) : Option Int := ostinatoref02_Depth.f k x.f0 x.f1.f0 x.f1.f1 x.f1.f2 x.f1.f3 x.f2 x.f3 x.f4
theorem placesR_ev (n : Nat) : ∀ (x : T), cntT x < n → cntT x ≤ 1000000 → Ev (fun k => placesR k x) (placesT x : Int) := by
  induction n with
  | zero => intro x h; omega
  | succ n ih =>
    intro x hn hc
    obtain ⟨a, ⟨b0, b1, b2, b3⟩, ps, lo, hi⟩ := x
    rw [cntT] at hn hc
    have hll := len_le_cntL ps
    have loop : ∀ (d i v : Nat), ps.length - i = d → i ≤ ps.length → v + placesL (ps.drop i) ≤ 2000000 → Ev (fun k => ostinatoref02_Places.l0 k (v : Int) (i : Int) a b0 b1 b2 b3 ps lo hi) ((v + placesL (ps.drop i) : Nat) : Int) := by
      intro d
      induction d with
      | zero =>
        intro i v hd hile hv
        refine Ev.step (f := fun _ => some (v : Int)) (fun k => ?_) (by rw [show i = ps.length by omega, List.drop_length]; simpa [placesL] using Ev.now _)
        simp only [ostinatoref02_Places.l0]
        rw [if_neg (by omega)]
      | succ d ihd =>
        intro i v hd hile hv
        have hlt : i < ps.length := by omega
        have hmem := List.getElem_mem hlt
        have hcm := cntL_mem hmem
        have hp1 := ih ps[i] (by omega) (by omega)
        rw [dropN ps i hlt, placesL] at hv ⊢
        have hr := ihd (i + 1) (v + placesT ps[i]) (by omega) (by omega) (by omega)
        rw [show v + (placesT ps[i] + placesL (ps.drop (i + 1))) = v + placesT ps[i] + placesL (ps.drop (i + 1)) by omega]
        refine Ev.step (f := fun k => (placesR k ps[i]).bind fun t => ostinatoref02_Places.l0 k (wrap64 ((v : Int) + t)) ((i + 1 : Nat) : Int) a b0 b1 b2 b3 ps lo hi) (fun k => ?_) (Ev.bind hp1 ?_)
        · simp only [ostinatoref02_Places.l0]
          rw [if_pos (by omega), if_pos (by omega), rdN ps i hlt, wrapS i (by omega)]
        · rw [wrapI (by omega) (by omega), ← Int.natCast_add]; exact hr
    have hpl := placesL_le ps
    refine Ev.step (f := fun k => ostinatoref02_Places.j0 k ((if a = 1 then 1 else 0 : Nat) : Int) a b0 b1 b2 b3 ps lo hi) (fun k => ?_) ?_
    · simp only [placesR, ostinatoref02_Places.f]
      by_cases h1 : a = 1
      · rw [if_pos h1, if_pos h1]; rfl
      · rw [if_neg h1, if_neg h1]; rfl
    · rw [placesT]
      have h0 : (if a = 1 then 1 else 0 : Nat) ≤ 1 := by split <;> omega
      generalize (if a = 1 then 1 else 0 : Nat) = v at h0
      refine Ev.step (f := fun k => ostinatoref02_Places.l0 k (v : Int) ((0 : Nat) : Int) a b0 b1 b2 b3 ps lo hi) (fun k => by simp only [ostinatoref02_Places.j0]; rfl) ?_
      have := loop ps.length 0 v (by omega) (by omega) (by rw [List.drop_zero]; omega)
      rwa [List.drop_zero] at this
theorem depthR_ev (n : Nat) : ∀ (x : T), cntT x < n → cntT x ≤ 1000000 → Ev (fun k => depthR k x) (depthT x : Int) := by
  induction n with
  | zero => intro x h; omega
  | succ n ih =>
    intro x hn hc
    obtain ⟨a, ⟨b0, b1, b2, b3⟩, ps, lo, hi⟩ := x
    rw [cntT] at hn hc
    have hll := len_le_cntL ps
    have hdl := depthL_le ps
    have loop : ∀ (d i v : Nat), ps.length - i = d → i ≤ ps.length → max v (depthL (ps.drop i)) ≤ 2000000 → Ev (fun k => ostinatoref02_Depth.l0 k (v : Int) (i : Int) a b0 b1 b2 b3 ps lo hi) ((max v (depthL (ps.drop i)) + 1 : Nat) : Int) := by
      intro d
      induction d with
      | zero =>
        intro i v hd hile hv
        rw [show ps.drop i = [] by rw [show i = ps.length by omega, List.drop_length]] at hv ⊢
        rw [depthL] at hv ⊢
        refine Ev.step (f := fun _ => some ((v + 1 : Nat) : Int)) (fun k => ?_) (by rw [Nat.max_zero]; exact Ev.now _)
        simp only [ostinatoref02_Depth.l0]
        rw [if_neg (by omega), wrapS v (by omega)]
      | succ d ihd =>
        intro i v hd hile hv
        have hlt : i < ps.length := by omega
        have hmem := List.getElem_mem hlt
        have hcm := cntL_mem hmem
        have hp1 := ih ps[i] (by omega) (by omega)
        rw [dropN ps i hlt, depthL] at hv ⊢
        have hr := ihd (i + 1) (max v (depthT ps[i])) (by omega) (by omega) (by omega)
        rw [show max v (max (depthT ps[i]) (depthL (ps.drop (i + 1)))) = max (max v (depthT ps[i])) (depthL (ps.drop (i + 1))) by omega]
        refine Ev.step (f := fun k => (depthR k ps[i]).bind fun t => ostinatoref02_Depth.l0 k (mx (v : Int) t) ((i + 1 : Nat) : Int) a b0 b1 b2 b3 ps lo hi) (fun k => ?_) (Ev.bind hp1 ?_)
        · simp only [ostinatoref02_Depth.l0]
          rw [if_pos (by omega), if_pos (by omega), rdN ps i hlt, wrapS i (by omega)]
        · rw [show mx (v : Int) (depthT ps[i] : Int) = ((max v (depthT ps[i]) : Nat) : Int) by unfold mx; split <;> omega]; exact hr
    refine Ev.step (f := fun k => ostinatoref02_Depth.l0 k ((0 : Nat) : Int) ((0 : Nat) : Int) a b0 b1 b2 b3 ps lo hi) (fun k => by simp only [depthR, ostinatoref02_Depth.f]; rfl) ?_
    have := loop ps.length 0 0 (by omega) (by omega) (by rw [List.drop_zero]; omega)
    rw [List.drop_zero, Nat.zero_max] at this
    rw [depthT]
    exact this

/-! #### the calls -/
/-- A tree's parts lie in the world. -/
structure Tr (w : World) (x : T) (A : Option Addr) (c : Nat) : Prop where
  row : Kd.C k27 w A x.f2.length x.f2
  cap : x.f2.length ≤ c
theorem Tr.below {w w1 : World} {x : T} {A : Option Addr} {c : Nat} (h : Tr w x A c) (hb : Below w.heap.size w w1) : Tr w1 x A c := ⟨Kd.C_below h.row hb, h.cap⟩
theorem Tr.alloc {w : World} {x : T} {A : Option Addr} {c : Nat} (h : Tr w x A c) (o : Obj) : Tr (w.alloc o) x A c := h.below ((Below.refl _ w).alloc (Nat.le_refl _) o)
section
variable (x y : T) (A B : Option Addr) (c d : Nat) (w : World)
theorem tr_size (m : Int) (h0 : 0 ≤ m) (h1 : m ≤ 1000000) : ∃ s : Int, 1 ≤ s ∧ ((s ≤ m ∨ (cntT x : Int) ≤ m) → s = cntT x) ∧
    ∀ w, Tr w x A c → Calls Tryd.prog 8 #[ndV x A c, .int .i64 m] w fun e w' => e = .returned (.int .i64 s) ∧ Below w.heap.size w w' := by
  obtain ⟨s, hs, a, b, e⟩ := size_ev _ x m (Nat.lt_succ_self _) h0 h1
  obtain ⟨k, hk⟩ := hs.rounds
  exact ⟨s, a, e, fun w h => ostinatoref02_Size.calls k _ _ _ _ _ A c _ _ _ m s w h.row h.cap hk⟩
theorem tr_refFormed (hc : cntT x ≤ 1000000) (h : Tr w x A c) : Calls Tryd.prog 9 #[ndV x A c] w fun e w' => e = .returned (.bool (formedT x)) ∧ Below w.heap.size w w' := by
  obtain ⟨k, hk⟩ := (formed_ev _ x (Nat.lt_succ_self _) hc).rounds
  exact ostinatoref02_Formed.calls k _ _ _ _ _ A c _ _ _ _ w h.row h.cap hk
theorem tr_refSame (hc : cntT x ≤ 1000000) (h : Tr w x A c) (g : Tr w y B d) : Calls Tryd.prog 15 #[ndV x A c, ndV y B d] w fun e w' => e = .returned (.bool (sameT x y)) ∧ Below w.heap.size w w' := by
  obtain ⟨k, hk⟩ := (refSame_ev _ x y (Nat.lt_succ_self _) hc).rounds
  exact ostinatoref02_Same.calls k _ _ _ _ _ A c _ _ _ _ _ _ _ _ B d _ _ _ _ w h.row h.cap g.row g.cap hk
theorem tr_refPlaces (hc : cntT x ≤ 1000000) (h : Tr w x A c) : Calls Tryd.prog 14 #[ndV x A c] w fun e w' => e = .returned (.int .i64 (placesT x : Int)) ∧ Below w.heap.size w w' := by
  obtain ⟨k, hk⟩ := (placesR_ev _ x (Nat.lt_succ_self _) hc).rounds
  exact ostinatoref02_Places.calls k _ _ _ _ _ A c _ _ _ _ w h.row h.cap hk
theorem tr_refDepth (hc : cntT x ≤ 1000000) (h : Tr w x A c) : Calls Tryd.prog 13 #[ndV x A c] w fun e w' => e = .returned (.int .i64 (depthT x : Int)) ∧ Below w.heap.size w w' := by
  obtain ⟨k, hk⟩ := (depthR_ev _ x (Nat.lt_succ_self _) hc).rounds
  exact ostinatoref02_Depth.calls k _ _ _ _ _ A c _ _ _ _ w h.row h.cap hk
theorem tr_formed (h : Tr w x A c) : Calls Tryd.prog 18 #[ndV x A c] w fun e w' => e = .returned (.bool (formedT x)) ∧ Below w.heap.size w w' :=
  formed_any _ x A c w (Nat.lt_succ_self _) h.row h.cap
end
end Go.Proofs.YtaohlmcgaggoeaaDoor.P
/- Parse, whole; awake. -/
namespace Go.Proofs.YtaohlmcgaggoeaaDoor.P
open Go.RowKit Go.Proofs.YtaohlmcgaggoeaaDoor Go.Proofs.YtaohlmcgaggoeaaDoorW.PrintWords Go.Proofs.YtaohlmcgaggoeaaDoorW.PrintLast Go.Proofs.YtaohlmcgaggoeaaDoorW.PrintMore
set_option linter.unusedVariables false
set_option linter.unusedSimpArgs false
theorem parse_any (s : ByteArray) (w : World) : Calls Tryd.prog 12 #[.string s] w fun x w' => ∃ A c, x = .returned (.tuple #[ndV (parseS s).t A c, .int .i64 (parseS s).pl, .int .i64 (parseS s).e]) ∧ Tr w' (parseS s).t A c ∧ Below w.heap.size w w' := by
  have h : Calls Tryd.prog 12 #[.string s] w fun x w' => PAns s w x w' := by
    by_cases hs : s.size > 400
    · exact parse_big s w hs
    · exact parse_small s w (by omega)
  exact h.mono fun x w' ⟨A, c, h1, h2, h3, h4⟩ => ⟨A, c, h1, ⟨h3, h2⟩, h4⟩
/-- Where a node's first or second child lies. -/
theorem Tr.child {w : World} {x : T} {A : Option Addr} {c : Nat} (h : Tr w x A c) (i : Nat) (hi : i < x.f2.length) : ∃ ad A' c', A = some ad ∧ Tr w x.f2[i] A' c' ∧
    w.cell? (ad.add (i * 8)) = some (.int .i64 x.f2[i].f0) ∧ w.cell? ⟨(ad.add (i * 8)).block, (ad.add (i * 8)).off + 1, none⟩ = some (.int .u64 x.f2[i].f1.f0) ∧ w.cell? ⟨(ad.add (i * 8)).block, (ad.add (i * 8)).off + 2, none⟩ = some (.int .u64 x.f2[i].f1.f1) ∧
    w.cell? ⟨(ad.add (i * 8)).block, (ad.add (i * 8)).off + 3, none⟩ = some (.int .u64 x.f2[i].f1.f2) ∧ w.cell? ⟨(ad.add (i * 8)).block, (ad.add (i * 8)).off + 4, none⟩ = some (.int .u64 x.f2[i].f1.f3) ∧
    w.cell? ⟨(ad.add (i * 8)).block, (ad.add (i * 8)).off + 5, none⟩ = some (.slice A' x.f2[i].f2.length c') ∧ w.cell? ⟨(ad.add (i * 8)).block, (ad.add (i * 8)).off + 6, none⟩ = some (.int .i64 x.f2[i].f3) ∧ w.cell? ⟨(ad.add (i * 8)).block, (ad.add (i * 8)).off + 7, none⟩ = some (.int .i64 x.f2[i].f4) := by
  obtain ⟨ad, A5, c5, e, h0, h1, h2, h3, h4, h5, h6, h7, l5, g5⟩ := at_T27 h.row (i : Int) (by omega) (by omega)
  rw [rdN x.f2 i hi] at h0 h1 h2 h3 h4 h5 h6 h7 l5 g5
  exact ⟨ad, A5, c5, e, ⟨g5, l5⟩, h0, h1, h2, h3, h4, h5, h6, h7⟩
end Go.Proofs.YtaohlmcgaggoeaaDoor.P
/- Texts put together: where their pieces stand. -/
namespace Go.Proofs.YtaohlmcgaggoeaaDoor.P
open Go.RowKit Go.Proofs.YtaohlmcgaggoeaaDoor Go.Proofs.YtaohlmcgaggoeaaDoorW.PrintWords Go.Proofs.YtaohlmcgaggoeaaDoorW.PrintLast Go.Proofs.YtaohlmcgaggoeaaDoorW.PrintMore
set_option linter.unusedVariables false
set_option linter.unusedSimpArgs false
theorem run_bdN {s : ByteArray} : ∀ (d : Nat) (m : Mc), s.size - m.sc.at_ ≤ d → m.sc.at_ ≤ s.size → BdN m → BdN (runF s m) ∧ (runF s m).sc.at_ ≤ s.size
  | d, m, hd, hm, h => by
    by_cases hg : goes s m.sc
    · rw [runF_go hg]
      have h1 := step_at hg
      cases d with
      | zero => have := hg.2; omega
      | succ d => exact run_bdN d _ (by have := h1.1; omega) h1.2 (step_bdN hg h)
    · rw [runF_stop hg]; exact ⟨h, hm⟩
theorem same_refl (x : T) : sameT x x = true := (sameT_iff x x).2 rfl
/-- A tree in a variable. -/
structure Bx (q : Nat) (x : T) (A : Option Addr) (c : Nat) (wi : World) : Prop where
  blk : wi.heap[q]? = some (.cells #[.int .i64 x.f0, .int .u64 x.f1.f0, .int .u64 x.f1.f1, .int .u64 x.f1.f2, .int .u64 x.f1.f3, .slice A x.f2.length c, .int .i64 x.f3, .int .i64 x.f4] 27)
  tr : Tr wi x A c
theorem Bx.later {q : Nat} {x : T} {A : Option Addr} {c : Nat} {wi wj : World} (h : Bx q x A c wi) (hb : Below wi.heap.size wi wj) : Bx q x A c wj := ⟨(hb.block q (blk_lt h.blk)).trans h.blk, h.tr.below hb⟩
theorem Bx.alloc {q : Nat} {x : T} {A : Option Addr} {c : Nat} {wi : World} (h : Bx q x A c wi) (o : Obj) : Bx q x A c (wi.alloc o) := h.later ((Below.refl _ wi).alloc (Nat.le_refl _) o)
abbrev nO (x : T) (A : Option Addr) (c : Nat) : Obj := .cells #[.int .i64 x.f0, .int .u64 x.f1.f0, .int .u64 x.f1.f1, .int .u64 x.f1.f2, .int .u64 x.f1.f3, .slice A x.f2.length c, .int .i64 x.f3, .int .i64 x.f4] 27
theorem Bx.new {x : T} {A : Option Addr} {c : Nat} {wi : World} (h : Tr wi x A c) : Bx wi.heap.size x A c (wi.alloc (nO x A c)) := ⟨heap_alloc_new wi _, h.alloc _⟩
end Go.Proofs.YtaohlmcgaggoeaaDoor.P
