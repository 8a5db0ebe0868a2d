/- The reference's Parts. -/
import Derived.Test.YthknfjiggdkcaaaDoorPt1
import Derived.Test.YthknfjiggdkcaaaDoorApp
namespace Go.Proofs.YthknfjiggdkcaaaDoor
open Go.RowKit
set_option linter.unusedVariables false
set_option linter.unusedSimpArgs false
/-- An array of 256 loaded, under a name of its own. -/
def LoadS (v : Value) : Sem Value := Instr.loadAt 45 v
theorem loadS (v : Value) : Instr.loadAt 45 v = LoadS v := rfl
attribute [local go_sem ↓] appS loadS
theorem load_row (w : World) (g : Nat) (f : Nat → Value) (h : w.rowIs g 45 256 f) : ∃ cs : Array Value, cs.size = 256 ∧ (∀ i, i < 256 → cs[i]? = some (f i)) ∧ (LoadS (.pointer (some ⟨g, 0, none⟩))).run Tryd.prog w = .ok (.agg cs) w := by
  obtain ⟨cs, hb, hsz, hc⟩ := h
  refine ⟨cs, hsz, hc, ?_⟩
  have hr := run_loadVar_row (P := Tryd.prog) w g 45 45 cs (0, 0) _ hb Tryd.underlying45 rfl (by rw [hsz]; kernel_rfl)
  show (Instr.loadAt _ _).run _ _ = _
  simp [Instr.loadAt, Instr.sureAddr, hr]
theorem zero45 (W : World) : (zeroValue 45).run Tryd.prog W = .ok (.agg (Array.replicate 256 (.bool false))) W := by kernel_rfl
theorem infoCls : (Tryd.prog.info? 24).map (fun i => (i.zero, i.size, i.bytes)) = some (some (.agg #[.int .u64 0, .int .u64 0, .int .u64 0, .int .u64 0]), 4, 32) := by kernel_rfl
/-- Classes as cells. -/
def ccells : List Cw → List Value
  | [] => []
  | x :: l => .int .u64 (x 0) :: .int .u64 (x 1) :: .int .u64 (x 2) :: .int .u64 (x 3) :: ccells l
theorem ccells_length : ∀ l : List Cw, (ccells l).length = l.length * 4
  | [] => rfl
  | x :: l => by simp [ccells, ccells_length l]; omega
theorem ccells_append : ∀ l m : List Cw, ccells (l ++ m) = ccells l ++ ccells m
  | [], m => rfl
  | x :: l, m => by simp [ccells, ccells_append l m]
/-- Bytes before a that have the same key. -/
def DnP (l : List Cw) (a b : Nat) : Prop := ∃ q, q < a ∧ key l q = key l b
open Classical in
noncomputable def dn (l : List Cw) (a b : Nat) : Bool := decide (DnP l a b)
open Classical in
theorem dn_iff {l : List Cw} {a b : Nat} : dn l a b = true ↔ DnP l a b := decide_eq_true_iff
open Classical in
theorem tog_iff {l : List Cw} {a b : Nat} : togB l a b = true ↔ key l a = key l b := decide_eq_true_iff
theorem dn_zero (l : List Cw) (b : Nat) : dn l 0 b = false := by
  rw [Bool.eq_false_iff]
  intro h
  obtain ⟨q, hq, _⟩ := dn_iff.1 h
  omega
theorem dn_succ (l : List Cw) (a b : Nat) : dn l (a + 1) b = (dn l a b || togB l a b) := by
  rw [Bool.eq_iff_iff, Bool.or_eq_true, dn_iff, dn_iff, tog_iff]
  constructor
  · rintro ⟨q, hq, e⟩
    by_cases h : q = a
    · subst h; exact .inr e
    · exact .inl ⟨q, by omega, e⟩
  · rintro (⟨q, hq, e⟩ | e)
    · exact ⟨q, by omega, e⟩
    · exact ⟨a, by omega, e⟩
theorem dn_old {l : List Cw} {a : Nat} (h : dn l a a = true) (b : Nat) : dn l (a + 1) b = dn l a b := by
  rw [dn_succ, Bool.eq_iff_iff, Bool.or_eq_true, dn_iff, tog_iff]
  obtain ⟨q, hq, e⟩ := dn_iff.1 h
  exact ⟨fun h => h.elim id fun e2 => ⟨q, hq, e.trans e2⟩, .inl⟩
theorem tog_new {l : List Cw} {a : Nat} (h : dn l a a = false) (q : Nat) (hq : q < 256) : (decide (a ≤ q ∧ q < 256) && togB l a q) = togB l a q := by
  by_cases e : togB l a q = true
  · rw [e, Bool.and_true]
    apply decide_eq_true
    refine ⟨?_, hq⟩
    rcases Nat.lt_or_ge q a with hlt | hge
    · exfalso
      have : dn l a a = true := dn_iff.2 ⟨q, hlt, (tog_iff.1 e).symm⟩
      rw [h] at this
      cases this
    · exact hge
  · rw [Bool.not_eq_true] at e
    rw [e, Bool.and_false]
/-- The bytes that begin parts. -/
noncomputable def firsts (l : List Cw) : Nat → List Nat
  | 0 => []
  | a + 1 => if dn l a a then firsts l a else firsts l a ++ [a]
theorem firsts_len (l : List Cw) : ∀ a, (firsts l a).length ≤ a
  | 0 => Nat.le_refl _
  | a + 1 => by
    have := firsts_len l a
    rw [firsts]
    split
    · omega
    · simp; omega
/-- A row of the call's own that holds the parts that begin at these bytes. -/
def OutC (l : List Cw) (w : World) (base : Nat) (v : Value) (fs : List Nat) : Prop :=
  ∃ xs : List Cw, xs.length = fs.length ∧ AllW xs ∧ (∀ i, i < fs.length → ∀ b : Nat, b < 256 → hasB (clAt xs i) b = togB l (fs.getD i 0) b) ∧ w.ownsRow base 24 4 v xs.length (ccells xs)
namespace OutC
variable {l : List Cw} {w w' : World} {base : Nat} {v : Value} {fs : List Nat}
theorem kept {row : Option Nat} (h : OutC l w base v fs) (hg : w.grownBy w' row) (hne : v.ownBlock = none ∨ v.ownBlock ≠ row) : OutC l w' base v fs := by
  obtain ⟨xs, h1, h2, h3, h4⟩ := h
  exact ⟨xs, h1, h2, h3, World.ownsRow.kept h4 hg hne⟩
theorem alloc (h : OutC l w base v fs) (o : Obj) : OutC l (w.alloc o) base v fs := by
  obtain ⟨xs, h1, h2, h3, h4⟩ := h
  exact ⟨xs, h1, h2, h3, World.ownsRow.alloc h4 o⟩
theorem lt (h : OutC l w base v fs) : ∀ k, v.ownBlock = some k → base ≤ k ∧ k < w.heap.size := by
  obtain ⟨xs, h1, h2, h3, h4⟩ := h
  exact World.ownsRow.lt h4
theorem below (h : OutC l w base v fs) (hb : Below w.heap.size w w') : OutC l w' base v fs :=
  h.kept (row := none) ⟨hb.os, hb.tape, hb.output, hb.size, fun k hk _ => hb.block k hk⟩ (by
    rcases Value.ownBlock v with _ | b
    · exact .inl rfl
    · exact .inr (by simp))
theorem far (h : OutC l w base v fs) {a : Addr} (ha : v.ownBlock ≠ some a.block) (u : Value) : OutC l (w.setCell a u) base v fs := by
  refine h.kept (row := some a.block) ⟨rfl, rfl, rfl, by simp [World.setCell], fun k hk hne => ?_⟩ (.inr ha)
  simp only [World.setCell, Array.getElem?_modify]
  rw [if_neg (fun e => hne (by rw [e]))]
end OutC

theorem in_step (t : Nat → Bool) {a b : Nat} (hab : a ≤ b) (q : Nat) : (decide (a ≤ q ∧ q < b + 1) && t q) = if q = b then t b else (decide (a ≤ q ∧ q < b) && t q) := by
  by_cases h : q = b
  · subst h
    rw [if_pos rfl, decide_eq_true ⟨hab, by omega⟩, Bool.true_and]
  · rw [if_neg h]
    congr 1
    apply decide_eq_decide.2
    omega
set_option maxHeartbeats 4000000 in
theorem refParts_any (l : List Cw) (hl : AllW l) (A : Option Addr) (c : Nat) (w : World) (hs : Cs w A c l) :
    Calls Tryd.prog 17 #[.slice A l.length c] w fun e w' => ∃ v, e = .returned v ∧ OutC l w' w.heap.size v (firsts l 256) ∧ Below w.heap.size w w' := by
  obtain ⟨i0, hi, hz0, hz1, hz2⟩ := info_parts infoCls
  have hz45 := zero45
  obtain ⟨Z, hZ⟩ : ∃ Z, Z = Array.replicate 256 (Value.bool false) := ⟨_, rfl⟩
  rw [← hZ] at hz45
  have hZs : Z.size = 256 := by rw [hZ]; simp
  have hZf : ∀ i, i < 256 → Z[i]? = some (Value.bool false) := fun i h => by rw [hZ]; simp [h]
  have HL := Lib.hid hl
  have HZS := Lib.hid hZs
  have HZF := Lib.hid hZf
  clear hZ hl hZs hZf
  go_enter Tryd.func17, Tryd.ntmps17
  go_wp2_with fail
  go_loopw [3, 5] (fun out i wr => ∃ a : Nat, a ≤ 256 ∧ i = .int .i64 a ∧ wr.rowIs w.heap.size 45 256 (fun q => .bool (dn l a q)) ∧ OutC l wr (w.heap.size + 1) out (firsts l a) ∧ Below w.heap.size w wr) (fun _ i _ => 256 - (intOf i).toNat)
  case atStart =>
    refine ⟨0, by omega, rfl, ?_, ?_, ?_⟩
    · exact (row_box w Z _ HZS.out HZF.out).congr (fun q hq => by rw [dn_zero])
    · exact ⟨[], rfl, fun j hj => by simp at hj, fun i hi => by simp [firsts] at hi, World.ownsRow_nil _ _ _ _⟩
    · exact (Below.refl _ _).alloc (Nat.le_refl _) _
  case round =>
    obtain ⟨a, ha, rfl, hdone, ho, hb⟩ := hrel
    by_cases hlt : a < 256
    · have hlz : (a : Int) < 256 := by omega
      have hca := hdone.cell hlt
      cases hd : dn l a a with
      | true =>
        rw [hd] at hca
        have hsame : ∀ q, dn l (a + 1) q = dn l a q := dn_old hd
        have hf : firsts l (a + 1) = firsts l a := by rw [firsts, if_pos hd]
        have HS := Lib.hid hsame
        have HF := Lib.hid hf
        clear hd hsame hf
        go_wp2
        go_roundw
        case rel => exact ⟨a + 1, by omega, by go_num, hdone.congr (fun q _ => by rw [HS.out]), by rw [HF.out]; exact ho, hb⟩
        case measure => simp [intOf]; omega
      | false =>
        rw [hd] at hca
        have HD := Lib.hid hd
        clear hd
        obtain ⟨G, hG⟩ : ∃ G, G = wr.heap.size := ⟨_, rfl⟩
        have hown : ∀ k, u3.ownBlock = some k → w.heap.size + 1 ≤ k ∧ k < G := by rw [hG]; exact ho.lt
        have hn1 : u3.ownBlock ≠ some w.heap.size := fun e => by have := hown _ e; omega
        have hn2 : u3.ownBlock ≠ some G := fun e => by have := hown _ e; omega
        have hGw : w.heap.size + 1 ≤ G := by rw [hG]; have := hdone.lt; omega
        have hi0 : (wr.alloc (.cells Z 45)).rowIs G 45 256 (fun _ => .bool false) := by rw [hG]; exact row_box wr Z _ HZS.out HZF.out
        have hd0 := hdone.alloc (.cells Z 45)
        have ho0 := ho.alloc (.cells Z 45)
        have hb0 := hb.alloc hb.size (.cells Z 45)
        have hg0 : G + 1 ≤ (wr.alloc (.cells Z 45)).heap.size := by rw [hG]; simp
        go_wp2_with fail
        rw [← hG]
        clear hdone ho hb hca hown
        have HG := Lib.hid hG
        clear hG
        generalize wr.alloc (.cells Z 45) = wA at *
        go_loopw [7] (fun bv wi => ∃ b : Nat, a ≤ b ∧ b ≤ 256 ∧ bv = .int .i64 b ∧ wi.rowIs G 45 256 (fun q => .bool (decide (a ≤ q ∧ q < b) && togB l a q)) ∧ wi.rowIs w.heap.size 45 256 (fun q => .bool (dn l a q || (decide (a ≤ q ∧ q < b) && togB l a q))) ∧ OutC l wi (w.heap.size + 1) u3 (firsts l a) ∧ Below w.heap.size w wi) (fun bv _ => 256 - (intOf bv).toNat)
        case atStart =>
          have hdf : ∀ q, decide (a ≤ q ∧ q < a) = false := fun q => decide_eq_false (by omega)
          exact ⟨a, by omega, by omega, rfl, hi0.congr (fun q _ => by rw [hdf, Bool.false_and]), hd0.congr (fun q _ => by rw [hdf, Bool.false_and, Bool.or_false]), ho0, hb0⟩
        case round =>
          obtain ⟨b, hab, hb256, rfl, hin, hdn, ho, hb⟩ := hrel
          clear hi0 hd0 ho0 hb0 hg0
          by_cases hbl : b < 256
          · have hbz : (b : Int) < 256 := by omega
            have htg := together_any l HL.out a b hlt hbl A c wr (hs.below hb)
            have hst := in_step (togB l a) hab
            cases ht : togB l a b with
            | true =>
              rw [ht] at htg hst
              have HST := Lib.hid hst
              have HT := Lib.hid ht
              clear hst ht
              go_wp2_with fail
              refine htg.mono ?_
              rintro e w1 ⟨rfl, hb1⟩
              have hin1 := row_below hin hb1
              have hdn1 := row_below hdn hb1
              have ho1 := ho.below hb1
              have hbb := ext_trans hb hb1
              clear htg hin hdn ho hb hb1
              have c1 := hin1.cell hbl
              have f1 := hin1.frozen b
              have hdn2 := hdn1.setOther (a := ⟨G, b, none⟩) (by show w.heap.size ≠ G; omega) (.bool true)
              have hin2 := hin1.set b (.bool true)
              have hin3 := hin2.setOther (a := ⟨w.heap.size, b, none⟩) (by show G ≠ w.heap.size; omega) (.bool true)
              have hdn3 := hdn2.set b (.bool true)
              have c2 := hdn2.cell hbl
              have f2 := hdn2.frozen b
              have ho3 := (ho1.far (a := ⟨G, b, none⟩) hn2 (.bool true)).far (a := ⟨w.heap.size, b, none⟩) hn1 (.bool true)
              have hbb3 := (hbb.setCell (p := ⟨G, b, none⟩) (by show w.heap.size ≤ G; omega) (.bool true)).setCell (p := ⟨w.heap.size, b, none⟩) (Nat.le_refl _) (.bool true)
              clear hin1 hdn1 hin2 hdn2 ho1 hbb
              go_wp2
              go_roundw
              case rel =>
                refine ⟨b + 1, by omega, by omega, by go_num, hin3.congr (fun q _ => ?_), hdn3.congr (fun q _ => ?_), ho3, hbb3⟩
                · rw [HST.out]; split <;> rfl
                · rw [HST.out]
                  split
                  · rw [Bool.or_true]
                  · rfl
              case measure => simp [intOf]; omega
            | false =>
              rw [ht] at htg hst
              have HST := Lib.hid hst
              clear hst ht
              go_wp2_with fail
              refine htg.mono ?_
              rintro e w1 ⟨rfl, hb1⟩
              have hin1 := row_below hin hb1
              have hdn1 := row_below hdn hb1
              have ho1 := ho.below hb1
              have hbb := ext_trans hb hb1
              clear htg hin hdn ho hb hb1
              go_wp2
              go_roundw
              case rel =>
                have hfb : (decide (a ≤ b ∧ b < b) && togB l a b) = false := by rw [decide_eq_false (by omega), Bool.false_and]
                refine ⟨b + 1, by omega, by omega, by go_num, hin1.congr (fun q _ => ?_), hdn1.congr (fun q _ => ?_), ho1, hbb⟩
                · rw [HST.out]
                  split
                  · rename_i e; subst e; rw [hfb]
                  · rfl
                · rw [HST.out]
                  split
                  · rename_i e; subst e; rw [hfb]
                  · rfl
              case measure => simp [intOf]; omega
          · obtain rfl : b = 256 := by omega
            have hin' := hin.congr (g := fun q => .bool (togB l a q)) (fun q hq => by rw [tog_new HD.out q hq])
            have hdn' := hdn.congr (g := fun q => .bool (dn l (a + 1) q)) (fun q hq => by rw [tog_new HD.out q hq, dn_succ])
            have hdA := hdn'
            obtain ⟨cs, hcs1, hcs2, hld⟩ := load_row _ _ _ hin'
            have hmd := made_any cs (togB l a) hcs1 hcs2 wr
            have hfl := firsts_len l a
            have hfs : firsts l (a + 1) = firsts l a ++ [a] := by rw [firsts, HD.out]; rfl
            have HFS := Lib.hid hfs
            clear hin hdn hin' hdn' hfs
            go_wp2_with fail
            refine hmd.mono ?_
            rintro e w2 ⟨x, rfl, hx, hxq, hb2⟩
            have hdn2 := row_below hdA hb2
            have ho2 := ho.below hb2
            have hbb := ext_trans hb hb2
            have HXQ := Lib.hid hxq
            clear hmd hld hdA ho hb hb2 hxq
            obtain ⟨xs, e1, e2, e3, e4⟩ := ho2
            obtain ⟨g3, c3, w3, hr3, hq3, hg3⟩ := app_row (P := Tryd.prog) w2 35 24 _ 4 32 Tryd.underlying35 hi hz0 hz1 hz2 rfl (by omega) u3 xs.length (ccells xs) e4 (by have := hdn2.lt; omega) [.int .u64 (x 0), .int .u64 (x 1), .int .u64 (x 2), .int .u64 (x 3)] rfl (by simp [Value.oneCell']) (by omega) (by omega)
            have hdn3 := hdn2.of_block (w' := w3) (hg3.block w.heap.size hdn2.lt (by intro h; exact hn1 h.symm))
            have hb6 := hbb.grown hg3 (by have := hbb.size; omega) (fun k e => by have := World.ownsRow.lt e4 k e; omega)
            have HO : Hid (OutC l w3 (w.heap.size + 1) (.slice (some ⟨g3, 0, none⟩) (xs.length + 1) c3) (firsts l (a + 1))) := by
              show OutC _ _ _ _ _
              refine ⟨xs ++ [x], by rw [HFS.out]; simp [e1], fun j hj => ?_, fun i hi b hbq => ?_, ?_⟩
              · by_cases h : j < xs.length
                · have := e2 j h
                  simpa [clAt, List.getD, List.getElem?_append_left h] using this
                · obtain rfl : j = xs.length := by simp at hj; omega
                  simpa [clAt, List.getD] using hx
              · rw [HFS.out] at hi ⊢
                by_cases h : i < xs.length
                · have := e3 i (by omega) b hbq
                  have h' : i < (firsts l a).length := by omega
                  simpa [clAt, List.getD, List.getElem?_append_left h, List.getElem?_append_left h'] using this
                · obtain rfl : i = xs.length := by simp at hi; omega
                  have := HXQ.out b hbq
                  simpa [clAt, List.getD, e1] using this
              · rw [List.length_append, ccells_append]
                exact hq3
            clear hq3 hg3 e4
            go_wp2
            go_roundw
            case rel => exact ⟨a + 1, by omega, by go_num, hdn3, by rw [← e1]; exact HO.out, hb6⟩
            case measure => simp [intOf]; omega
    · obtain rfl : a = 256 := by omega
      go_wp2
      go_ret
      exact ⟨_, rfl, by obtain ⟨xs, h1, h2, h3, h4⟩ := ho; exact ⟨xs, h1, h2, h3, ⟨h4.1, h4.2.imp id fun ⟨g, cap, cur, e1, e2, e3⟩ => ⟨g, cap, cur, e1, by omega, e3⟩⟩⟩, hb⟩
end Go.Proofs.YthknfjiggdkcaaaDoor
