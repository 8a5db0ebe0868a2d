/- The walk of split, of one part that is all. -/
import Derived.Test.YthknfjiggdkcaaaDoorPt6o
import Derived.Deep.RegionLaw
import Derived.RegionTactic
namespace Go.Proofs.YthknfjiggdkcaaaDoor
open Go.RowKit Go.Maps
set_option linter.unusedVariables false
set_option linter.unusedSimpArgs false
attribute [local go_sem ↓] appS

theorem OutS.below {l : List Cw} {w w' : World} {base : Nat} {v : Value} {b : Nat} (h : OutS l w base v b) (hb : Below w.heap.size w w') : OutS l w' base v b := by
  obtain ⟨xs, h1, h2, h3, h4⟩ := h
  refine ⟨xs, h1, h2, h3, World.ownsRow.kept h4 (row := none) ⟨hb.os, hb.tape, hb.output, hb.size, fun k hk _ => hb.block k hk⟩ ?_⟩
  rcases Value.ownBlock v with _ | b
  · exact .inl rfl
  · exact .inr (by simp)
theorem MapI.below {l : List Cw} {w w' : World} {B b : Nat} (h : MapI l w B b) (hb : Below w.heap.size w w') : MapI l w' B b :=
  h.kept (row := none) ⟨hb.os, hb.tape, hb.output, hb.size, fun k hk _ => hb.block k hk⟩ (by simp)
theorem MapI.far {l : List Cw} {w : World} {B b : Nat} (h : MapI l w B b) {a : Addr} (ha : B ≠ a.block) (u : Value) : MapI l (w.setCell a u) B b := by
  refine h.kept (row := some a.block) ⟨rfl, rfl, rfl, by simp [World.setCell], fun k hk hne => ?_⟩ (by intro e; injection e with e; exact ha e)
  simp only [World.setCell, Array.getElem?_modify]
  rw [if_neg (fun e => hne (by rw [e]))]
/-- What comes of region 16. -/
theorem put_end {l : List Cw} {w w7 : World} {b t g n cp : Nat} {xs : List Cw} (hbl : b < 256) (h1 : xs.length = (firsts l (b + 1)).length) (h2 : AllW xs) (h3 : ∀ i, i < xs.length → ∀ q : Nat, q < 256 → hasB (clAt xs i) q = (decide (q < b) && decide (idx l (b + 1) q = i)))
    (ht : t = idx l (b + 1) b) (htl : t < xs.length) (hR : w7.ownsRow (w.heap.size + 1) 24 4 (.slice (some ⟨g, 0, none⟩) n cp) xs.length (ccells xs)) (hM : MapI l w7 w.heap.size (b + 1)) (hb : Below w.heap.size w w7)
    {x : Cw} (hx : x = clAt xs t) {y0 y1 y2 y3 : Int} (hy : y0 = clsOf (memB [(b : Int)]) 0 ∧ y1 = clsOf (memB [(b : Int)]) 1 ∧ y2 = clsOf (memB [(b : Int)]) 2 ∧ y3 = clsOf (memB [(b : Int)]) 3) :
    MapI l ((((w7.setCell ⟨g, t * 4, none⟩ (.int .u64 (orw (x 0) y0))).setCell ⟨g, t * 4 + 1, none⟩ (.int .u64 (orw (x 1) y1))).setCell ⟨g, t * 4 + 2, none⟩ (.int .u64 (orw (x 2) y2))).setCell ⟨g, t * 4 + 3, none⟩ (.int .u64 (orw (x 3) y3))) w.heap.size (b + 1) ∧
    OutS l ((((w7.setCell ⟨g, t * 4, none⟩ (.int .u64 (orw (x 0) y0))).setCell ⟨g, t * 4 + 1, none⟩ (.int .u64 (orw (x 1) y1))).setCell ⟨g, t * 4 + 2, none⟩ (.int .u64 (orw (x 2) y2))).setCell ⟨g, t * 4 + 3, none⟩ (.int .u64 (orw (x 3) y3))) (w.heap.size + 1) (.slice (some ⟨g, 0, none⟩) n cp) (b + 1) ∧
    Below w.heap.size w ((((w7.setCell ⟨g, t * 4, none⟩ (.int .u64 (orw (x 0) y0))).setCell ⟨g, t * 4 + 1, none⟩ (.int .u64 (orw (x 1) y1))).setCell ⟨g, t * 4 + 2, none⟩ (.int .u64 (orw (x 2) y2))).setCell ⟨g, t * 4 + 3, none⟩ (.int .u64 (orw (x 3) y3))) := by
  obtain ⟨rfl, rfl, rfl, rfl⟩ := hy
  have hlt := (World.ownsRow.lt hR g rfl).1
  have hw : W64 x := by rw [hx]; exact h2 t htl
  have hz := or_cls hw (w64_clsOf (memB [(b : Int)]))
  obtain ⟨o1, o2, o3⟩ := out_step h1 h2 h3 ht htl (fun j => orw (x j) (clsOf (memB [(b : Int)]) j)) hz.1 (fun q hq => by
    rw [hz.2 q hq, has_clsOf, hx]
    congr 1
    unfold memB
    apply decide_eq_decide.2
    rw [List.mem_singleton]
    omega)
  refine ⟨(((hM.far (by show w.heap.size ≠ g; omega) _).far (by show w.heap.size ≠ g; omega) _).far (by show w.heap.size ≠ g; omega) _).far (by show w.heap.size ≠ g; omega) _, ⟨_, o1, o2, o3, own_put hR htl (fun j => orw (x j) (clsOf (memB [(b : Int)]) j))⟩, (((hb.setCell (by show w.heap.size ≤ g; omega) _).setCell (by show w.heap.size ≤ g; omega) _).setCell (by show w.heap.size ≤ g; omega) _).setCell (by show w.heap.size ≤ g; omega) _⟩
theorem marks_v (l : List Cw) (hl : AllW l) (hn : l.length ≤ 256) (b : Nat) (hb256 : b < 256) (A : Option Addr) (c : Nat) (w : World) (hs : Cs w A c l) :
    Calls Tryd.prog 25 #[.slice A l.length c, .int .u8 b] w fun e w' => e = .returned (.agg #[.int .u64 (clsOf (hasAt l b) 0), .int .u64 (clsOf (hasAt l b) 1), .int .u64 (clsOf (hasAt l b) 2), .int .u64 (clsOf (hasAt l b) 3)]) ∧ Below w.heap.size w w' :=
  (marks_any l hl hn b hb256 A c w hs).mono fun _ _ h => retC_v (fun _ h => h) h
set_option maxHeartbeats 4000000 in
theorem split_any (l : List Cw) (hl : AllW l) (hn : l.length ≤ 256) (A A' : Option Addr) (c c' : Nat) (p : Cw) (hpw : W64 p) (hpa : ∀ q : Nat, q < 256 → hasB p q = true) (w : World) (hs : Cs w A c l) (hs' : Cs w A' c' [p]) (hall : w.cell? ⟨0, 0, none⟩ = some (.int .i64 256)) :
    Calls Tryd.prog 22 #[.slice A' 1 c', .slice A l.length c] w fun e w' => ∃ v, e = .returned v ∧ OutS l w' (w.heap.size + 1) v 256 ∧ Below w.heap.size w w' := by
  obtain ⟨i0, hi, hz0, hz1, hz2⟩ := info_parts infoCls
  have hmm := @run_makeMap Tryd.prog
  have hM0 := MapI.zero l w
  have hall2 : (w.alloc (.map #[] 0)).cell? ⟨0, 0, none⟩ = some (.int .i64 256) := (((Below.refl _ w).alloc (Nat.le_refl _) (.map #[] 0)).cell (World.block_lt_of_cell? w _ hall)).trans hall
  have hcap := hs.cap
  have hmax := hs.max
  have HL := Lib.hid hl
  have HPA := Lib.hid hpa
  clear hl hpa
  go_enter Tryd.func22, Tryd.ntmps22
  go_wp2
  clear hmm hall2
  go_loopw [6, 15] (fun out i wr => ∃ b : Nat, b ≤ 256 ∧ i = .int .i64 b ∧ MapI l wr w.heap.size b ∧ OutS l wr (w.heap.size + 1) out b ∧ Below w.heap.size w wr) (fun _ i _ => 256 - (intOf i).toNat)
  case atStart => exact ⟨0, by omega, rfl, hM0, ⟨[], rfl, fun j hj => by simp at hj, fun i hi => by simp at hi, World.ownsRow_nil _ _ _ _⟩, (Below.refl _ _).alloc (Nat.le_refl _) _⟩
  case round =>
    obtain ⟨b, hb256, rfl, hM, hO, hb⟩ := hrel
    clear hM0
    by_cases hlt : b < 256
    · have hlz : (b : Int) < 256 := by omega
      have hwr : IntKind.u8.wrap (b : Int) = (b : Int) := by rw [IntKind.wrap_u8]; omega
      go_wp2
      go_loopw [6, 20] (fun out j wr => ((j = .int .i64 0 ∧ MapI l wr w.heap.size b ∧ OutS l wr (w.heap.size + 1) out b) ∨ (j = .int .i64 1 ∧ MapI l wr w.heap.size (b + 1) ∧ OutS l wr (w.heap.size + 1) out (b + 1))) ∧ Below w.heap.size w wr) (fun _ j _ => 1 - (intOf j).toNat)
      case atStart => exact ⟨.inl ⟨rfl, hM, hO⟩, hb⟩
      case round =>
        obtain ⟨hrel, hb⟩ := hrel
        clear hM hO
        rcases hrel with ⟨rfl, hM, hO⟩ | ⟨rfl, hM, hO⟩
        · obtain ⟨ad, rfl, a0, a1, a2, a3⟩ := (hs'.below hb).at_ (j := 0) (by simp)
          have e0 : clAt [p] 0 = p := rfl
          rw [e0] at a0 a1 a2 a3
          rw [Nat.zero_mul] at a0 a1 a2 a3
          have ez : ad.add 0 = ad := by simp [Addr.add]
          rw [ez] at a0 a1 a2 a3
          have hcall := fun W => has_any p hpw (b : Int) (by omega) (by omega) W
          rw [Int.toNat_natCast, HPA.out b hlt] at hcall
          have hbA := hb.alloc hb.size (.cells #[.int .u64 (p 0), .int .u64 (p 1), .int .u64 (p 2), .int .u64 (p 3)] 24)
          have hMA := hM.below ((Below.refl _ _).alloc (Nat.le_refl _) (.cells #[.int .u64 (p 0), .int .u64 (p 1), .int .u64 (p 2), .int .u64 (p 3)] 24))
          have hOA := hO.below ((Below.refl _ _).alloc (Nat.le_refl _) (.cells #[.int .u64 (p 0), .int .u64 (p 1), .int .u64 (p 2), .int .u64 (p 3)] 24))
          clear e0 ez hM hO
          go_wp2_with fail
          refine (hcall _).mono ?_
          rintro e w2 ⟨rfl, hb2⟩
          have hbB := ext_trans hbA hb2
          have hMB := hMA.below hb2
          have hOB := hOA.below hb2
          clear hcall hbA hMA hOA hb2 a0 a1 a2 a3
          go_wp2_with fail
          refine (marks_v l HL.out hn b hlt A c _ (hs.below hbB)).mono ?_
          rintro e w3 ⟨rfl, hb3⟩
          have hbC := ext_trans hbB hb3
          have hMC := hMB.below hb3
          have hOC := hOB.below hb3
          clear hbB hMB hOB hb3
          obtain ⟨m0, hm0⟩ : ∃ m, m = clsOf (hasAt l b) 0 := ⟨_, rfl⟩
          obtain ⟨m1, hm1⟩ : ∃ m, m = clsOf (hasAt l b) 1 := ⟨_, rfl⟩
          obtain ⟨m2, hm2⟩ : ∃ m, m = clsOf (hasAt l b) 2 := ⟨_, rfl⟩
          obtain ⟨m3, hm3⟩ : ∃ m, m = clsOf (hasAt l b) 3 := ⟨_, rfl⟩
          have hKV : KV l b = .agg #[.int .i64 0, .int .u64 m0, .int .u64 m1, .int .u64 m2, .int .u64 m3] := by rw [hm0, hm1, hm2, hm3]; rfl
          rw [← hm0, ← hm1, ← hm2, ← hm3]
          obtain ⟨w4, hw4⟩ : ∃ w4, w4 = w3.alloc (.cells #[.int .i64 0, .int .u64 m0, .int .u64 m1, .int .u64 m2, .int .u64 m3] 54) := ⟨_, rfl⟩
          have hM4 : MapI l w4 w.heap.size b := by rw [hw4]; exact hMC.below ((Below.refl _ _).alloc (Nat.le_refl _) _)
          have HW3 : Hid (w.heap.size < w3.heap.size) := by
            obtain ⟨D, n, q, _⟩ := hMC
            exact q.lt
          have hO4 : OutS l w4 (w.heap.size + 1) u6 b := by rw [hw4]; exact hOC.below ((Below.refl _ _).alloc (Nat.le_refl _) _)
          have hb4 : Below w.heap.size w w4 := by rw [hw4]; exact hbC.alloc hbC.size _
          have hlook := hM4.look b
          rw [hKV] at hlook
          have HKV := Lib.hid hKV
          clear hm0 hm1 hm2 hm3 hKV hMC hOC hbC
          have hblk : w4.heap[w3.heap.size]? = some (.cells #[.int .i64 0, .int .u64 m0, .int .u64 m1, .int .u64 m2, .int .u64 m3] 54 (0, 0)) := by rw [hw4]; exact heap_alloc_new w3 _
          have g0 : w4.cell? ⟨w3.heap.size, 0, none⟩ = some (.int .i64 0) := (blk_cell hblk 0).trans rfl
          have g1 : w4.cell? ⟨w3.heap.size, 1, none⟩ = some (.int .u64 m0) := (blk_cell hblk 1).trans rfl
          have g2 : w4.cell? ⟨w3.heap.size, 2, none⟩ = some (.int .u64 m1) := (blk_cell hblk 2).trans rfl
          have g3 : w4.cell? ⟨w3.heap.size, 3, none⟩ = some (.int .u64 m2) := (blk_cell hblk 3).trans rfl
          have g4 : w4.cell? ⟨w3.heap.size, 4, none⟩ = some (.int .u64 m3) := (blk_cell hblk 4).trans rfl
          obtain ⟨xs, x1, x2, x3, x4⟩ := hO4
          have HX1 := Lib.hid x1
          have HX2 := Lib.hid x2
          have HX3 := Lib.hid x3
          clear x1 x2 x3
          cases hd : dn l b b with
          | true =>
            rw [hd, if_pos rfl] at hlook
            rw [hw4] at hlook g0 g1 g2 g3 g4
            go_wp2_with fail
            rw [← hw4]
            clear hlook g0 g1 g2 g3 g4 hw4 hblk
            obtain ⟨t, htt⟩ : ∃ t, t = idx l b b := ⟨_, rfl⟩
            rw [← htt]
            have HTL : Hid (t < xs.length) := by
              obtain ⟨q, _⟩ := idx_at b b hd
              show _ < _
              rw [htt, HX1.out]; exact q
            have HTT := Lib.hid htt
            clear htt
            obtain ⟨v6, hv6⟩ : ∃ v6, v6 = u6 := ⟨_, rfl⟩
            rw [← hv6] at x4 ⊢
            obtain ⟨w5, hw5⟩ : ∃ w5, w5 = w4 := ⟨_, rfl⟩
            rw [← hw5] at x4 hM4 hb4 ⊢
            have hown := x4
            clear hw5 hv6
            have htl : t < xs.length := HTL.out
            obtain ⟨g, cp, rfl⟩ : ∃ g cp, v6 = .slice (some ⟨g, 0, none⟩) xs.length cp := by
              rcases hown.2 with ⟨_, h0⟩ | ⟨g, cap, cur, hv, _⟩
              · omega
              · exact ⟨g, cap, hv⟩
            have hX0 := World.ownsRow.drew hown
            obtain ⟨W1, hW1⟩ : ∃ W1, W1 = (w5.alloc (.cells #[.int .u8 (b : Int)] 5)).drew := ⟨_, rfl⟩
            have hX1 : W1.ownsRow (w.heap.size + 1) 24 4 (.slice (some ⟨g, 0, none⟩) xs.length cp) xs.length (ccells xs) := by rw [hW1]; exact World.ownsRow.drew (World.ownsRow.alloc hown _)
            have hcb : W1.cell? ⟨w5.heap.size, 0, none⟩ = some (.int .u8 (b : Int)) := by rw [hW1]; exact (blk_cell (w := (w5.alloc (.cells #[.int .u8 (b : Int)] 5)).drew) (heap_alloc_new w5 _) 0).trans rfl
            have hrd : RdI W1 .u8 (some ⟨w5.heap.size, 0, none⟩) [(b : Int)] := by
              refine ⟨by simp, fun _ => ⟨_, rfl, fun j hj => ?_⟩⟩
              have : j = 0 := by simp at hj; omega
              subst this
              simpa [Addr.add] using hcb
            have hof := of_v [(b : Int)] (some ⟨w5.heap.size, 0, none⟩) 1 W1 hrd (fun z hz => by rw [List.mem_singleton.1 hz]; omega)
            rw [show ([(b : Int)] : List Int).length = 1 from rfl] at hof
            clear hrd
            obtain ⟨y0, hy0⟩ : ∃ m, m = clsOf (memB [(b : Int)]) 0 := ⟨_, rfl⟩
            obtain ⟨y1, hy1⟩ : ∃ m, m = clsOf (memB [(b : Int)]) 1 := ⟨_, rfl⟩
            obtain ⟨y2, hy2⟩ : ∃ m, m = clsOf (memB [(b : Int)]) 2 := ⟨_, rfl⟩
            obtain ⟨y3, hy3⟩ : ∃ m, m = clsOf (memB [(b : Int)]) 3 := ⟨_, rfl⟩
            rw [← hy0, ← hy1, ← hy2, ← hy3] at hof
            obtain ⟨x, hx⟩ : ∃ x, x = clAt xs t := ⟨_, rfl⟩
            have nx : ∀ W', Below W1.heap.size W1 W' → W'.ownsRow (w.heap.size + 1) 24 4 (.slice (some ⟨g, 0, none⟩) xs.length cp) xs.length (ccells xs) := fun W' h => World.ownsRow.kept hX1 (row := none) ⟨h.os, h.tape, h.output, h.size, fun k hk _ => h.block k hk⟩ (.inr (by simp [Value.ownBlock]))
            obtain ⟨⟨p0, p1, p2, p3⟩, _⟩ := own4 hX0 htl
            obtain ⟨⟨q0, q1, q2, q3⟩, _⟩ := own4 hX1 htl
            rw [← hx] at p0 p1 p2 p3 q0 q1 q2 q3
            have hlen : (t : Int) < (xs.length : Int) := by omega
            have HX := Lib.hid hx
            have NX := Lib.hid nx
            have HY : Hid (y0 = clsOf (memB [(b : Int)]) 0 ∧ y1 = clsOf (memB [(b : Int)]) 1 ∧ y2 = clsOf (memB [(b : Int)]) 2 ∧ y3 = clsOf (memB [(b : Int)]) 3) := ⟨hy0, hy1, hy2, hy3⟩
            rw [hW1] at q0 q1 q2 q3 hof
            have HW1 := Lib.hid hW1
            clear hx nx hy0 hy1 hy2 hy3 hcb hX0 hX1 hW1
            go_region_law (first
              | (go_simp; go_at_call 20; refine hof.mono ?_; rintro e w6 ⟨rfl, hb6⟩; have hR6 := NX.out w6 (by rw [HW1.out]; exact hb6); obtain ⟨⟨s0, s1, s2, s3⟩, _⟩ := own4 hR6 htl; rw [← HX.out] at s0 s1 s2 s3)
              | (go_simp; go_at_call 8; refine (or_v (x 0) (x 1) (x 2) (x 3) y0 y1 y2 y3 _).mono ?_; rintro e w7 ⟨rfl, hb7⟩; have hR7 := NX.out w7 (by rw [HW1.out]; exact ext_trans hb6 hb7); obtain ⟨⟨r0, r1, r2, r3⟩, f0, f1, f2, f3⟩ := own4 hR7 htl))
            all_goals
              have hbW : Below w5.heap.size w5 w7 := by
                refine Below.trans (((Below.refl _ _).alloc (Nat.le_refl _) (.cells #[.int .u8 (b : Int)] 5)).drew) ((ext_trans hb6 hb7).mono ?_)
                simp
              have hfb : firsts l (b + 1) = firsts l b := by rw [firsts, if_pos hd]
              have hib : ∀ q, q < b + 1 → idx l (b + 1) q = idx l b q := fun q hq => by
                rw [idx, if_pos]
                by_cases h : q = b
                · subst h; exact hd
                · exact dn_self (by omega)
              obtain ⟨e1, e2, e3⟩ := put_end (w := w) (b := b) (t := t) hlt (by rw [hfb]; exact HX1.out) HX2.out (fun i hi q hq => by
                rw [HX3.out i hi q hq]
                by_cases h : q < b
                · rw [hib q (by omega)]
                · rw [decide_eq_false h, Bool.false_and, Bool.false_and]) (by rw [hib b (by omega)]; exact HTT.out) htl hR7 ((hM4.below hbW).old hd) (ext_trans hb4 hbW) HX.out HY.out
              clear r0 r1 r2 r3 f0 f1 f2 f3 s0 s1 s2 s3 hR6 hR7
              go_wp2
              go_roundw
              case rel => exact ⟨.inr ⟨by go_num, e1, e2⟩, e3⟩
              case measure => simp [intOf]
          | false =>
            rw [hd] at hlook
            have hlook' : (Instr.lookup 50 (.map (some w.heap.size)) (.agg #[.int .i64 0, .int .u64 m0, .int .u64 m1, .int .u64 m2, .int .u64 m3]) true).run Tryd.prog w4 = .ok (.tuple #[.int .i64 0, .bool false]) w4 := hlook
            obtain ⟨w5, hu5, hM5, hg5⟩ := hM4.put hn hd hlt
            rw [HKV.out, ← HX1.out] at hu5
            have hb5 := hb4.grown hg5 hb4.size (fun k e => by injection e with e; omega)
            have hl9 := firsts_len l b
            have hx9 := HX1.out
            have x5 := World.ownsRow.kept x4 hg5 (.inr fun e => by have := World.ownsRow.lt x4 _ e; omega)
            have hlt5 := World.ownsRow.lt x5
            obtain ⟨g7, c7, w7, hr7, hq7, hg7⟩ := app_row (P := Tryd.prog) w5 35 24 _ 4 32 Tryd.underlying35 hi hz0 hz1 hz2 rfl (by omega) u6 xs.length (ccells xs) x5 (by have := hM5.below (Below.refl _ _); obtain ⟨D, n, q, _⟩ := this; have := q.lt; omega) [.int .u64 0, .int .u64 0, .int .u64 0, .int .u64 0] rfl (by simp [Value.oneCell']) (by omega) (by omega)
            have hM7 := hM5.kept hg7 (fun e => by have := hlt5 w.heap.size e.symm; omega)
            have hb7 := hb5.grown hg7 (by have := hb5.size; omega) (fun k e => by have := hlt5 k e; omega)
            obtain ⟨A6, c6, rfl⟩ : ∃ A6 c6, u6 = .slice A6 xs.length c6 := by
              rcases x4.2 with ⟨h, h0⟩ | ⟨g, cap, cur, h, _⟩
              · exact ⟨none, 0, by rw [h, h0]⟩
              · exact ⟨_, cap, h⟩
            have hc5 : ∀ q, q < 5 → w5.cell? ⟨w3.heap.size, q, none⟩ = w4.cell? ⟨w3.heap.size, q, none⟩ := fun q _ => World.cell?_of_block (w := w4) (hg5.block w3.heap.size (by rw [hw4]; simp) (by intro e; injection e with e; have := hb4.size; have := (Array.getElem?_eq_some_iff.1 hblk).1; have hq : w.heap.size < w3.heap.size := HW3.out; omega))
            have k1 := (hc5 0 (by omega)).trans g0
            clear hc5
            rw [hw4] at hlook' hu5 g0 g1 g2 g3 g4
            clear hlook hx9 hl9
            have hz7 : W64 (fun _ => (0 : Int)) := w64_zero
            obtain ⟨ys, hys⟩ : ∃ ys : List Cw, ys = xs ++ [fun _ => 0] := ⟨_, rfl⟩
            have hyl : ys.length = xs.length + 1 := by rw [hys]; simp
            have hyc : ccells ys = ccells xs ++ [.int .u64 0, .int .u64 0, .int .u64 0, .int .u64 0] := by rw [hys, ccells_append]; rfl
            rw [← hyc] at hq7
            rw [← hyl] at hr7 hq7
            have HYS := Lib.hid hys
            have HYL := Lib.hid hyl
            clear hys hyl hyc
            go_wp2_with fail
            obtain ⟨t, htt⟩ : ∃ t, t = xs.length := ⟨_, rfl⟩
            rw [← htt]
            have HTL : Hid (t < ys.length) := by show _ < _; rw [htt, HYL.out]; omega
            have HTT := Lib.hid htt
            obtain ⟨g, hg⟩ : ∃ g, g = g7 := ⟨_, rfl⟩
            obtain ⟨cp, hcp⟩ : ∃ cp, cp = c7 := ⟨_, rfl⟩
            rw [← hg, ← hcp] at hq7 ⊢
            clear htt hg hcp hr7 hu5 hlook' g0 g1 g2 g3 g4 k1 hw4 hblk
            clear hM4 hb4 x4 x5 hlt5 hg7 hg5 hb5 hM5
            have hown := hq7
            have htl : t < ys.length := HTL.out
            have hX0 := World.ownsRow.drew hown
            obtain ⟨W1, hW1⟩ : ∃ W1, W1 = (w7.alloc (.cells #[.int .u8 (b : Int)] 5)).drew := ⟨_, rfl⟩
            have hX1 : W1.ownsRow (w.heap.size + 1) 24 4 (.slice (some ⟨g, 0, none⟩) ys.length cp) ys.length (ccells ys) := by rw [hW1]; exact World.ownsRow.drew (World.ownsRow.alloc hown _)
            have hcb : W1.cell? ⟨w7.heap.size, 0, none⟩ = some (.int .u8 (b : Int)) := by rw [hW1]; exact (blk_cell (w := (w7.alloc (.cells #[.int .u8 (b : Int)] 5)).drew) (heap_alloc_new w7 _) 0).trans rfl
            have hrd : RdI W1 .u8 (some ⟨w7.heap.size, 0, none⟩) [(b : Int)] := by
              refine ⟨by simp, fun _ => ⟨_, rfl, fun j hj => ?_⟩⟩
              have : j = 0 := by simp at hj; omega
              subst this
              simpa [Addr.add] using hcb
            have hof := of_v [(b : Int)] (some ⟨w7.heap.size, 0, none⟩) 1 W1 hrd (fun z hz => by rw [List.mem_singleton.1 hz]; omega)
            rw [show ([(b : Int)] : List Int).length = 1 from rfl] at hof
            clear hrd
            obtain ⟨y0, hy0⟩ : ∃ m, m = clsOf (memB [(b : Int)]) 0 := ⟨_, rfl⟩
            obtain ⟨y1, hy1⟩ : ∃ m, m = clsOf (memB [(b : Int)]) 1 := ⟨_, rfl⟩
            obtain ⟨y2, hy2⟩ : ∃ m, m = clsOf (memB [(b : Int)]) 2 := ⟨_, rfl⟩
            obtain ⟨y3, hy3⟩ : ∃ m, m = clsOf (memB [(b : Int)]) 3 := ⟨_, rfl⟩
            rw [← hy0, ← hy1, ← hy2, ← hy3] at hof
            obtain ⟨x, hx⟩ : ∃ x, x = clAt ys t := ⟨_, rfl⟩
            have nx : ∀ W', Below W1.heap.size W1 W' → W'.ownsRow (w.heap.size + 1) 24 4 (.slice (some ⟨g, 0, none⟩) ys.length cp) ys.length (ccells ys) := fun W' h => World.ownsRow.kept hX1 (row := none) ⟨h.os, h.tape, h.output, h.size, fun k hk _ => h.block k hk⟩ (.inr (by simp [Value.ownBlock]))
            obtain ⟨⟨p0, p1, p2, p3⟩, _⟩ := own4 hX0 htl
            obtain ⟨⟨q0, q1, q2, q3⟩, _⟩ := own4 hX1 htl
            rw [← hx] at p0 p1 p2 p3 q0 q1 q2 q3
            have hlen : (t : Int) < (ys.length : Int) := by omega
            have HX := Lib.hid hx
            have NX := Lib.hid nx
            have HY : Hid (y0 = clsOf (memB [(b : Int)]) 0 ∧ y1 = clsOf (memB [(b : Int)]) 1 ∧ y2 = clsOf (memB [(b : Int)]) 2 ∧ y3 = clsOf (memB [(b : Int)]) 3) := ⟨hy0, hy1, hy2, hy3⟩
            rw [hW1] at q0 q1 q2 q3 hof
            have HW1 := Lib.hid hW1
            clear hx nx hy0 hy1 hy2 hy3 hcb hX0 hX1 hW1
            go_region_law (first
              | (go_simp; go_at_call 20; refine hof.mono ?_; rintro e w6 ⟨rfl, hb6⟩; have hR6 := NX.out w6 (by rw [HW1.out]; exact hb6); obtain ⟨⟨s0, s1, s2, s3⟩, _⟩ := own4 hR6 htl; rw [← HX.out] at s0 s1 s2 s3)
              | (go_simp; go_at_call 8; refine (or_v (x 0) (x 1) (x 2) (x 3) y0 y1 y2 y3 _).mono ?_; rintro e w9 ⟨rfl, hb9⟩; have hR7 := NX.out w9 (by rw [HW1.out]; exact ext_trans hb6 hb9); obtain ⟨⟨r0, r1, r2, r3⟩, f0, f1, f2, f3⟩ := own4 hR7 htl))
            all_goals
              have hbW : Below w7.heap.size w7 w9 := by
                refine Below.trans (((Below.refl _ _).alloc (Nat.le_refl _) (.cells #[.int .u8 (b : Int)] 5)).drew) ((ext_trans hb6 hb9).mono ?_)
                simp
              have hfb : firsts l (b + 1) = firsts l b ++ [b] := by rw [firsts, hd]; rfl
              have hx9 := HX1.out
              have hib : ∀ q, q < b → idx l (b + 1) q = idx l b q := fun q hq => by rw [idx, if_pos (dn_self hq)]
              have htt : t = xs.length := HTT.out
              have hidx : t = idx l (b + 1) b := by rw [idx, hd, htt, hx9]; rfl
              have hcl : ∀ i, i < xs.length → clAt ys i = clAt xs i := fun i hi => by rw [HYS.out]; unfold clAt; simp [List.getD, List.getElem?_append_left hi]
              have hcz : clAt ys xs.length = fun _ => 0 := by rw [HYS.out]; unfold clAt; simp [List.getD]
              obtain ⟨e1, e2, e3⟩ := put_end (w := w) (b := b) (t := t) (xs := ys) hlt (by rw [hfb, HYL.out, hx9]; simp) (fun j hj => by
                  by_cases h : j < xs.length
                  · rw [hcl j h]; exact HX2.out j h
                  · obtain rfl : j = xs.length := by have := HYL.out; omega
                    rw [hcz]; exact hz7) (fun i hi q hq => by
                  by_cases h : i < xs.length
                  · rw [hcl i h, HX3.out i h q hq]
                    by_cases hqb : q < b
                    · rw [hib q hqb]
                    · rw [decide_eq_false hqb, Bool.false_and, Bool.false_and]
                  · obtain rfl : i = xs.length := by have := HYL.out; omega
                    rw [hcz, has_empty]
                    by_cases hqb : q < b
                    · obtain ⟨q1, _⟩ := idx_at (l := l) b q (dn_self hqb)
                      rw [hib q hqb, decide_eq_false (p := idx l b q = xs.length) (by omega), Bool.and_false]
                    · rw [decide_eq_false hqb, Bool.false_and]) hidx htl hR7 (hM7.below hbW) (ext_trans hb7 hbW) HX.out HY.out
              clear r0 r1 r2 r3 f0 f1 f2 f3 s0 s1 s2 s3 hR6 hR7 htt hx9 hidx hcl hcz hib hfb
              go_wp2
              go_roundw
              case rel => exact ⟨.inr ⟨by go_num, e1, e2⟩, e3⟩
              case measure => simp [intOf]
        · go_wp2
          go_roundw
          case rel => exact ⟨b + 1, by omega, by go_num, hM, hO, hb⟩
          case measure => simp [intOf]; omega
    · obtain rfl : b = 256 := by omega
      go_wp2
      go_ret
      exact ⟨_, rfl, hO, hb⟩
end Go.Proofs.YthknfjiggdkcaaaDoor
