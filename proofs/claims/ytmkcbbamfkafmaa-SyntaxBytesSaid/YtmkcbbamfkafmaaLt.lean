/- SyntaxBytes: the walk. -/
import Derived.Test.YtmkcbbamfkafmaaME
namespace Go.Proofs.Ytmkcbbamfkafmaa.P
open Go.RowKit Go.Proofs.Ytmkcbbamfkafmaa Go.Proofs.YtmkcbbamfkafmaaW.PrintWords Go.Proofs.YtmkcbbamfkafmaaW.PrintLast Go.Proofs.YtmkcbbamfkafmaaW.PrintMore
set_option linter.unusedVariables false
set_option linter.unusedSimpArgs false
attribute [local go_sem ↓] addS slcG
/-- A digit's byte. -/
def hxc (q : Nat) : UInt8 := UInt8.ofNat (if q < 10 then 48 + q else 87 + q)
theorem hxc_hex0 : ∀ q : Fin 16, hexI ((hxc q.1).toNat : Int) = (q.1 : Int) := by decide +kernel
theorem hxc_hex {q : Nat} (h : q < 16) : hexI ((hxc q).toNat : Int) = (q : Int) := hxc_hex0 ⟨q, h⟩
theorem ex_hex0 : ∀ q : Fin 16, hexS.extract q.1 (q.1 + 1) = ⟨#[hxc q.1]⟩ := by decide +kernel
theorem slc_u8 (q : Nat) (hq : q < 16) (W : World) : (SlcG 9 (.string hexS) (.int .u8 (q : Int)) (.int .u8 ((q + 1 : Nat) : Int))).run Try.prog W = .ok (.string (tx [hxc q])) W := by
  have h := run_slice_string (P := Try.prog) W 9 hexS .u8 .u8 (q : Int) ((q + 1 : Nat) : Int) Try.underlying9 (by omega) (by omega) (by show ((q + 1 : Nat) : Int) ≤ 16; omega)
  have e := ex_hex0 ⟨q, hq⟩
  simp only [Int.toNat_natCast] at h
  rw [e] at h
  exact h
theorem hex_at {s : ByteArray} {i a : Nat} (h : At s i [92, 120, hxc (a / 16), hxc (a % 16)]) (ha : a < 256) : HexAt s i (a : Int) := by
  have h0 := h.head
  have h1 := h.tail.head
  have h2 := h.tail.tail.head
  have h3 := h.tail.tail.tail.head
  have hsz := h.1
  rw [show i + 1 + 1 = i + 2 by omega] at h2
  rw [show i + 1 + 1 + 1 = i + 3 by omega] at h3
  have e2 : hexI (gb s (i + 2)) = ((a / 16 : Nat) : Int) := by rw [h2]; exact hxc_hex (by omega)
  have e3 : hexI (gb s (i + 3)) = ((a % 16 : Nat) : Int) := by rw [h3]; exact hxc_hex (by omega)
  refine ⟨by simpa using hsz, h0, h1, by rw [e2]; omega, by rw [e3]; omega, by rw [e2, e3]; omega⟩
abbrev xl (a : Nat) : List UInt8 := [92, 120, hxc (a / 16), hxc (a % 16)]
/-- The texts of the statement. -/
structure ByT (a b : Nat) (P1 P2 X1 X Q1 Q2 Y1 Y V1 V2 V3 V4 V5 : ByteArray) : Prop where
  p1 : ∀ W, (SlcG 9 (.string ⟨#[48, 49, 50, 51, 52, 53, 54, 55, 56, 57, 97, 98, 99, 100, 101, 102]⟩) (.int .u8 ((a / 16 : Nat) : Int)) (.int .u8 (((a / 16 : Nat) : Int) + 1))).run Try.prog W = .ok (.string P1) W
  p2 : ∀ W, (SlcG 9 (.string ⟨#[48, 49, 50, 51, 52, 53, 54, 55, 56, 57, 97, 98, 99, 100, 101, 102]⟩) (.int .u8 ((a % 16 : Nat) : Int)) (.int .u8 (((a % 16 : Nat) : Int) + 1))).run Try.prog W = .ok (.string P2) W
  q1 : ∀ W, (SlcG 9 (.string ⟨#[48, 49, 50, 51, 52, 53, 54, 55, 56, 57, 97, 98, 99, 100, 101, 102]⟩) (.int .u8 ((b / 16 : Nat) : Int)) (.int .u8 (((b / 16 : Nat) : Int) + 1))).run Try.prog W = .ok (.string Q1) W
  q2 : ∀ W, (SlcG 9 (.string ⟨#[48, 49, 50, 51, 52, 53, 54, 55, 56, 57, 97, 98, 99, 100, 101, 102]⟩) (.int .u8 ((b % 16 : Nat) : Int)) (.int .u8 (((b % 16 : Nat) : Int) + 1))).run Try.prog W = .ok (.string Q2) W
  a1 : ∀ W, (AddS ⟨#[92, 120]⟩ P1).run Try.prog W = .ok (.string X1) W
  a2 : ∀ W, (AddS X1 P2).run Try.prog W = .ok (.string X) W
  b1 : ∀ W, (AddS ⟨#[92, 120]⟩ Q1).run Try.prog W = .ok (.string Y1) W
  b2 : ∀ W, (AddS Y1 Q2).run Try.prog W = .ok (.string Y) W
  v1 : ∀ W, (AddS ⟨#[91]⟩ X).run Try.prog W = .ok (.string V1) W
  v2 : ∀ W, (AddS V1 ⟨#[93]⟩).run Try.prog W = .ok (.string V2) W
  v3 : ∀ W, (AddS V1 ⟨#[45]⟩).run Try.prog W = .ok (.string V3) W
  v4 : ∀ W, (AddS V3 Y).run Try.prog W = .ok (.string V4) W
  v5 : ∀ W, (AddS V4 ⟨#[93]⟩).run Try.prog W = .ok (.string V5) W
  one : parseS X = ⟨setN (fun q => decide ((q : Int) = (a : Int))), 0, 0⟩
  cls : parseS V2 = ⟨setN (inR a a), 0, 0⟩
  rng : parseS V5 = if (a : Int) > (b : Int) then ⟨zN, 5, 2⟩ else ⟨setN (inR a b), 0, 0⟩
theorem byT (a b : Nat) (ha : a < 256) (hb : b < 256) : ∃ P1 P2 X1 X Q1 Q2 Y1 Y V1 V2 V3 V4 V5, ByT a b P1 P2 X1 X Q1 Q2 Y1 Y V1 V2 V3 V4 V5 := by
  refine ⟨tx [hxc (a / 16)], tx [hxc (a % 16)], tx ([92, 120] ++ [hxc (a / 16)]), tx (xl a), tx [hxc (b / 16)], tx [hxc (b % 16)], tx ([92, 120] ++ [hxc (b / 16)]), tx (xl b), tx ([91] ++ xl a), tx ([91] ++ xl a ++ [93]), tx ([91] ++ xl a ++ [45]), tx ([91] ++ xl a ++ [45] ++ xl b), tx ([91] ++ xl a ++ [45] ++ xl b ++ [93]),
    slc_u8 _ (by omega), slc_u8 _ (by omega), slc_u8 _ (by omega), slc_u8 _ (by omega), fun W => adds_run W [92, 120] _ (by simp), fun W => adds_run W _ [hxc (a % 16)] (by simp), fun W => adds_run W [92, 120] _ (by simp), fun W => adds_run W _ [hxc (b % 16)] (by simp),
    fun W => adds_run W [91] _ (by simp), fun W => adds_run W _ [93] (by simp), fun W => adds_run W _ [45] (by simp), fun W => adds_run W _ _ (by simp), fun W => adds_run W _ [93] (by simp), ?_, ?_, ?_⟩
  · exact bytes_one (hex_at (at_all (xl a)) ha) (by rw [tx_size]; rfl)
  · have h := at_all ([91] ++ xl a ++ [93])
    exact bytes_cls h.left.left.head (hex_at h.left.right ha) h.right.head (by rw [tx_size]; rfl)
  · have h := at_all ([91] ++ xl a ++ [45] ++ xl b ++ [93])
    exact bytes_rng h.left.left.left.left.head (hex_at h.left.left.left.right ha) h.left.left.right.head (hex_at h.left.right hb) h.right.head (by rw [tx_size]; rfl)
/-- A word's bit, as the statement asks for it. -/
theorem bit_at {z0 z1 z2 z3 : Int} {a b : Nat} (S : ∀ j, j < 4 → (if j = 0 then z0 else if j = 1 then z1 else if j = 2 then z2 else z3) = clsOf (inR (a : Int) (b : Int)) j) {n : Nat} (hn : n < 256) :
    (((if n / 64 = 0 then z0 else if n / 64 = 1 then z1 else if n / 64 = 2 then z2 else z3) / 2 ^ (n % 64)).tmod 2 == 1) = (decide (a ≤ n) && decide (n ≤ b)) := by
  have hw := w64_clsOf (inR (a : Int) (b : Int)) (n / 64) (by omega)
  rw [S (n / 64) (by omega), odd_spelt hw.1 hw.2]
  have := has_clsOf (inR (a : Int) (b : Int)) n
  unfold hasB at this
  rw [this]
  unfold inR
  rw [Bool.eq_iff_iff]
  simp
set_option maxHeartbeats 4000000 in
theorem bytes_any (a b : Nat) (ha : a ≤ 255) (hb : b ≤ 255) (w : World) : Calls Try.prog 4 #[.int .u8 (a : Int), .int .u8 (b : Int)] w fun e w' => e = .returned (.bool true) ∧ Below w.heap.size w w' := by
  obtain ⟨P1, P2, X1, X, Q1, Q2, Y1, Y, V1, V2, V3, V4, V5, h⟩ := byT a b (by omega) (by omega)
  have p1 := h.p1
  have p2 := h.p2
  have q1 := h.q1
  have q2 := h.q2
  have a1 := h.a1
  have a2 := h.a2
  have b1 := h.b1
  have b2 := h.b2
  have v1 := h.v1
  have v2 := h.v2
  have v3 := h.v3
  have v4 := h.v4
  have v5 := h.v5
  have HH := Lib.hid h
  obtain ⟨p, hp⟩ : ∃ p, p = a / 16 := ⟨_, rfl⟩
  obtain ⟨r, hr⟩ : ∃ r, r = a % 16 := ⟨_, rfl⟩
  obtain ⟨p', hp'⟩ : ∃ p, p = b / 16 := ⟨_, rfl⟩
  obtain ⟨r', hr'⟩ : ∃ r, r = b % 16 := ⟨_, rfl⟩
  rw [← hp] at p1
  rw [← hr] at p2
  rw [← hp'] at q1
  rw [← hr'] at q2
  have x1 : (a : Int) / 16 = (p : Int) := by omega
  have x2 : Int.tdiv (a : Int) 16 = (p : Int) := by rw [Int.tdiv_eq_ediv_of_nonneg (by omega)]; omega
  have x3 : (a : Int) % 16 = (r : Int) := by omega
  have x4 : Int.tmod (a : Int) 16 = (r : Int) := by rw [Int.tmod_eq_emod_of_nonneg (by omega)]; omega
  have y1 : (b : Int) / 16 = (p' : Int) := by omega
  have y2 : Int.tdiv (b : Int) 16 = (p' : Int) := by rw [Int.tdiv_eq_ediv_of_nonneg (by omega)]; omega
  have y3 : (b : Int) % 16 = (r' : Int) := by omega
  have y4 : Int.tmod (b : Int) 16 = (r' : Int) := by rw [Int.tmod_eq_emod_of_nonneg (by omega)]; omega
  have z1 : IntKind.u8.wrap (p : Int) = (p : Int) := by rw [IntKind.wrap_u8]; omega
  have z2 : IntKind.u8.wrap (r : Int) = (r : Int) := by rw [IntKind.wrap_u8]; omega
  have z3 : IntKind.u8.wrap (p' : Int) = (p' : Int) := by rw [IntKind.wrap_u8]; omega
  have z4 : IntKind.u8.wrap (r' : Int) = (r' : Int) := by rw [IntKind.wrap_u8]; omega
  have z5 : IntKind.u8.wrap ((p : Int) + 1) = (p : Int) + 1 := by rw [IntKind.wrap_u8]; omega
  have z6 : IntKind.u8.wrap ((r : Int) + 1) = (r : Int) + 1 := by rw [IntKind.wrap_u8]; omega
  have z7 : IntKind.u8.wrap ((p' : Int) + 1) = (p' : Int) + 1 := by rw [IntKind.wrap_u8]; omega
  have z8 : IntKind.u8.wrap ((r' : Int) + 1) = (r' : Int) + 1 := by rw [IntKind.wrap_u8]; omega
  clear hp hr hp' hr' h
  go_enter Try.func4, Try.ntmps4
  go_wp2_with fail
  go_region
  go_wp2_with fail
  go_region
  clear p1 p2 q1 q2 a1 a2 b1 b2 x1 x2 x3 x4 y1 y2 y3 y4 z1 z2 z3 z4 z5 z6 z7 z8
  go_wp2_with fail
  refine (parse_q X _).mono ?_
  rintro x w2 ⟨tk, t0, t1, t2, t3, tps, tlo, thi, At, ct, tpl, te, rfl, hp, hT, hb2⟩
  have hbd : Below w.heap.size w w2 := (⟨rfl, rfl, rfl, Nat.le_refl _, fun _ _ => rfl⟩ : Below w.heap.size w w.drew.drew).trans hb2
  have hbw := hbd.alloc hbd.size (.cells #[.int .i64 tk, .int .u64 t0, .int .u64 t1, .int .u64 t2, .int .u64 t3, .slice At tps.length ct, .int .i64 tlo, .int .i64 thi] 28)
  have kt : (w2.alloc (.cells #[.int .i64 tk, .int .u64 t0, .int .u64 t1, .int .u64 t2, .int .u64 t3, .slice At tps.length ct, .int .i64 tlo, .int .i64 thi] 28)).heap[w2.heap.size]? = some (.cells #[.int .i64 tk, .int .u64 t0, .int .u64 t1, .int .u64 t2, .int .u64 t3, .slice At tps.length ct, .int .i64 tlo, .int .i64 thi] 28) := heap_alloc_new w2 _
  obtain ⟨w3, hw3⟩ : ∃ w3, w3 = w2.alloc (.cells #[.int .i64 tk, .int .u64 t0, .int .u64 t1, .int .u64 t2, .int .u64 t3, .slice At tps.length ct, .int .i64 tlo, .int .i64 thi] 28) := ⟨_, rfl⟩
  rw [← hw3] at hbw kt
  have KT := Lib.hid kt
  clear hbd hb2 hT kt
  go_wp2_with fail
  rw [← hw3]
  clear hw3
  refine (parse_q V2 w3).mono ?_
  rintro x w4 ⟨yk, y0, y1, y2, y3, yps, ylo, yhi, Ay, cy, ypl, ye, rfl, hq, hT, hb4⟩
  have hbd := ext_trans hbw hb4
  have hbw5 := hbd.alloc hbd.size (.cells #[.int .i64 yk, .int .u64 y0, .int .u64 y1, .int .u64 y2, .int .u64 y3, .slice Ay yps.length cy, .int .i64 ylo, .int .i64 yhi] 28)
  have ky : (w4.alloc (.cells #[.int .i64 yk, .int .u64 y0, .int .u64 y1, .int .u64 y2, .int .u64 y3, .slice Ay yps.length cy, .int .i64 ylo, .int .i64 yhi] 28)).heap[w4.heap.size]? = some (.cells #[.int .i64 yk, .int .u64 y0, .int .u64 y1, .int .u64 y2, .int .u64 y3, .slice Ay yps.length cy, .int .i64 ylo, .int .i64 yhi] 28) := heap_alloc_new w4 _
  have b45 : Below w4.heap.size w4 (w4.alloc (.cells #[.int .i64 yk, .int .u64 y0, .int .u64 y1, .int .u64 y2, .int .u64 y3, .slice Ay yps.length cy, .int .i64 ylo, .int .i64 yhi] 28)) := (Below.refl _ w4).alloc (Nat.le_refl _) _
  obtain ⟨w5, hw5⟩ : ∃ w5, w5 = w4.alloc (.cells #[.int .i64 yk, .int .u64 y0, .int .u64 y1, .int .u64 y2, .int .u64 y3, .slice Ay yps.length cy, .int .i64 ylo, .int .i64 yhi] 28) := ⟨_, rfl⟩
  rw [← hw5] at hbw5 ky b45
  have KT5 := Lib.hid (((hb4.trans (b45.mono hb4.size)).block _ (blk_lt KT.out)).trans KT.out)
  have KY := Lib.hid ky
  clear hbd hb4 hT ky KT hbw b45
  go_wp2_with fail
  rw [← hw5]
  clear hw5
  refine (parse_q V5 w5).mono ?_
  rintro x w6 ⟨zk, z0, z1, z2, z3, zps, zlo, zhi, Az, cz, zpl, ze, rfl, hr, hT, hb6⟩
  have hbd := ext_trans hbw5 hb6
  have hbw7 := hbd.alloc hbd.size (.cells #[.int .i64 zk, .int .u64 z0, .int .u64 z1, .int .u64 z2, .int .u64 z3, .slice Az zps.length cz, .int .i64 zlo, .int .i64 zhi] 28)
  have kz : (w6.alloc (.cells #[.int .i64 zk, .int .u64 z0, .int .u64 z1, .int .u64 z2, .int .u64 z3, .slice Az zps.length cz, .int .i64 zlo, .int .i64 zhi] 28)).heap[w6.heap.size]? = some (.cells #[.int .i64 zk, .int .u64 z0, .int .u64 z1, .int .u64 z2, .int .u64 z3, .slice Az zps.length cz, .int .i64 zlo, .int .i64 zhi] 28) := heap_alloc_new w6 _
  have b67 : Below w6.heap.size w6 (w6.alloc (.cells #[.int .i64 zk, .int .u64 z0, .int .u64 z1, .int .u64 z2, .int .u64 z3, .slice Az zps.length cz, .int .i64 zlo, .int .i64 zhi] 28)) := (Below.refl _ w6).alloc (Nat.le_refl _) _
  obtain ⟨w7, hw7⟩ : ∃ w7, w7 = w6.alloc (.cells #[.int .i64 zk, .int .u64 z0, .int .u64 z1, .int .u64 z2, .int .u64 z3, .slice Az zps.length cz, .int .i64 zlo, .int .i64 zhi] 28) := ⟨_, rfl⟩
  rw [← hw7] at hbw7 kz b67
  have b57 := hb6.trans (b67.mono hb6.size)
  have KT7 := Lib.hid ((b57.block _ (blk_lt KT5.out)).trans KT5.out)
  have KY7 := Lib.hid ((b57.block _ (blk_lt KY.out)).trans KY.out)
  have KZ7 := Lib.hid kz
  clear hbd hb6 hT kz hbw5 b67 b57 KT5 KY v1 v2 v3 v4 v5
  go_wp2_with fail
  rw [← hw7]
  clear hw7
  refine (awake_any w7).mono ?_
  rintro x w8 ⟨rfl, hb8⟩
  have hbw8 := ext_trans hbw7 hb8
  have KT8 := Lib.hid ((hb8.block _ (blk_lt KT7.out)).trans KT7.out)
  have KY8 := Lib.hid ((hb8.block _ (blk_lt KY7.out)).trans KY7.out)
  have KZ8 := Lib.hid ((hb8.block _ (blk_lt KZ7.out)).trans KZ7.out)
  clear hbw7 hb8 KT7 KY7 KZ7
  have h1 := hp.out.symm.trans HH.out.one
  unfold setN at h1
  injection h1 with ht _ he
  injection ht with h0 hs _ _ _
  injection hs with s0 s1 s2 s3
  subst he h0
  have h2 := hq.out.symm.trans HH.out.cls
  unfold setN at h2
  injection h2 with ht _ he
  injection ht with h0 hs _ _ _
  injection hs with u0 u1 u2 u3
  subst he h0
  have e0 : y0 = t0 := by rw [u0, s0]; exact (one_same a 0 (by omega)).symm
  have e1 : y1 = t1 := by rw [u1, s1]; exact (one_same a 1 (by omega)).symm
  have e2 : y2 = t2 := by rw [u2, s2]; exact (one_same a 2 (by omega)).symm
  have e3 : y3 = t3 := by rw [u3, s3]; exact (one_same a 3 (by omega)).symm
  clear u0 u1 u2 u3
  subst e0 e1 e2 e3
  have S : Hid (∀ j, j < 4 → (if j = 0 then y0 else if j = 1 then y1 else if j = 2 then y2 else y3) = clsOf (fun q => decide ((q : Int) = (a : Int))) j) := Lib.hid fun j hj => by
    match j, hj with
    | 0, _ => exact s0
    | 1, _ => exact s1
    | 2, _ => exact s2
    | 3, _ => exact s3
  have hword := S.out (a / 64) (by omega)
  rw [one_word (by omega)] at hword
  have HW := Lib.hid hword
  have h3 := hr.out.symm.trans HH.out.rng
  have H3 := Lib.hid h3
  clear s0 s1 s2 s3 S hword h3 hp hq hr
  obtain ⟨c0, c1, c2, c3, c4, c5, c6, c7⟩ := n_cells KT8.out
  obtain ⟨d0, d1, d2, d3, d4, d5, d6, d7⟩ := n_cells KY8.out
  obtain ⟨k, hk⟩ : ∃ k, k = a / 64 := ⟨_, rfl⟩
  obtain ⟨m, hm⟩ : ∃ m, m = a % 64 := ⟨_, rfl⟩
  rw [← hk, ← hm] at HW
  have hmm : m < 64 := by omega
  have x1 : (a : Int) / 64 = (k : Int) := by omega
  have x2 : Int.tdiv (a : Int) 64 = (k : Int) := by rw [Int.tdiv_eq_ediv_of_nonneg (by omega)]; omega
  have x3 : (a : Int) % 64 = (m : Int) := by omega
  have x4 : Int.tmod (a : Int) 64 = (m : Int) := by rw [Int.tmod_eq_emod_of_nonneg (by omega)]; omega
  have heq := eqC
  have hwp : IntKind.u64.wrap ((2 : Int) ^ m) = 2 ^ m := by
    have := two_pow_lt m hmm
    unfold U64 at this
    rw [IntKind.wrap_u64]
    omega
  have hk4 : k = 0 ∨ k = 1 ∨ k = 2 ∨ k = 3 := by omega
  have HK := Lib.hid hk
  have HM := Lib.hid hm
  clear hk hm
  by_cases hab : (a : Int) > (b : Int)
  · have h4 := H3.out
    rw [if_pos hab] at h4
    injection h4 with _ hpl he
    subst hpl he
    rcases hk4 with rfl | rfl | rfl | rfl
    · have hw0 : y0 = 2 ^ m := HW.out
      clear HW
      go_wp2_with fail
      go_ret
      exact ⟨rfl, hbw8⟩
    · have hw0 : y1 = 2 ^ m := HW.out
      clear HW
      go_wp2_with fail
      go_ret
      exact ⟨rfl, hbw8⟩
    · have hw0 : y2 = 2 ^ m := HW.out
      clear HW
      go_wp2_with fail
      go_ret
      exact ⟨rfl, hbw8⟩
    · have hw0 : y3 = 2 ^ m := HW.out
      clear HW
      go_wp2_with fail
      go_ret
      exact ⟨rfl, hbw8⟩
  have h4 := H3.out
  rw [if_neg hab] at h4
  unfold setN at h4
  injection h4 with ht _ he
  injection ht with h0 hs _ _ _
  injection hs with v0 v1 v2 v3
  subst he h0
  have S : Hid (∀ j, j < 4 → (if j = 0 then z0 else if j = 1 then z1 else if j = 2 then z2 else z3) = clsOf (inR (a : Int) (b : Int)) j) := Lib.hid fun j hj => by
    match j, hj with
    | 0, _ => exact v0
    | 1, _ => exact v1
    | 2, _ => exact v2
    | 3, _ => exact v3
  obtain ⟨f0, f1, f2, f3, f4, f5, f6, f7⟩ := n_cells KZ8.out
  clear v0 v1 v2 v3 H3
  rcases hk4 with rfl | rfl | rfl | rfl
  · have hw0 : y0 = 2 ^ m := HW.out
    clear HW
    go_wp2_with fail
    clear c0 c1 c2 c3 c4 c5 c6 c7 d0 d1 d2 d3 d4 d5 d6 d7 x1 x2 x3 x4 heq hw0 hmm hwp
    go_loopw [17] (fun i wr => ∃ n : Nat, n ≤ 256 ∧ i = .int .i64 n ∧ wr = w8) (fun i _ => 256 - (intOf i).toNat)
    case atStart => exact ⟨0, by omega, rfl, rfl⟩
    case round =>
      obtain ⟨n, hn, rfl, rfl⟩ := hrel
      by_cases hlt : n < 256
      · have hnz : (n : Int) < 256 := by omega
        obtain ⟨q, hq⟩ : ∃ q, q = n / 64 := ⟨_, rfl⟩
        obtain ⟨m2, hm2⟩ : ∃ m, m = n % 64 := ⟨_, rfl⟩
        have g1 : (n : Int) / 64 = (q : Int) := by omega
        have g2 : Int.tdiv (n : Int) 64 = (q : Int) := by rw [Int.tdiv_eq_ediv_of_nonneg (by omega)]; omega
        have g3 : (n : Int) % 64 = (m2 : Int) := by omega
        have g4 : Int.tmod (n : Int) 64 = (m2 : Int) := by rw [Int.tmod_eq_emod_of_nonneg (by omega)]; omega
        have hbt := bit_at S.out hlt
        rw [← hq, ← hm2] at hbt
        have hmm2 : m2 < 64 := by omega
        have hq4 : q = 0 ∨ q = 1 ∨ q = 2 ∨ q = 3 := by omega
        have HN := Lib.hid hlt
        clear hq hm2 hlt
        rcases hq4 with rfl | rfl | rfl | rfl
        · have hb1 : ((z0 / 2 ^ m2).tmod 2 == 1) = (decide (a ≤ n) && decide (n ≤ b)) := hbt
          clear hbt
          by_cases r1 : a ≤ n
          · by_cases r2 : n ≤ b
            · rw [decide_eq_true r1, decide_eq_true r2] at hb1
              have r1z : (a : Int) ≤ (n : Int) := by omega
              have r2z : (n : Int) ≤ (b : Int) := by omega
              clear r1 r2
              go_wp2
              go_roundw
              case rel => exact ⟨n + 1, by have := HN.out; omega, by go_num, trivial⟩
              case measure => have := HN.out; simp [intOf]; omega
            · rw [decide_eq_true r1, decide_eq_false r2] at hb1
              have r1z : (a : Int) ≤ (n : Int) := by omega
              have r2z : ¬ (n : Int) ≤ (b : Int) := by omega
              clear r1 r2
              go_wp2
              go_roundw
              case rel => exact ⟨n + 1, by have := HN.out; omega, by go_num, trivial⟩
              case measure => have := HN.out; simp [intOf]; omega
          · rw [decide_eq_false r1] at hb1
            have r1z : ¬ (a : Int) ≤ (n : Int) := by omega
            clear r1
            go_wp2
            go_roundw
            case rel => exact ⟨n + 1, by have := HN.out; omega, by go_num, trivial⟩
            case measure => have := HN.out; simp [intOf]; omega
        · have hb1 : ((z1 / 2 ^ m2).tmod 2 == 1) = (decide (a ≤ n) && decide (n ≤ b)) := hbt
          clear hbt
          by_cases r1 : a ≤ n
          · by_cases r2 : n ≤ b
            · rw [decide_eq_true r1, decide_eq_true r2] at hb1
              have r1z : (a : Int) ≤ (n : Int) := by omega
              have r2z : (n : Int) ≤ (b : Int) := by omega
              clear r1 r2
              go_wp2
              go_roundw
              case rel => exact ⟨n + 1, by have := HN.out; omega, by go_num, trivial⟩
              case measure => have := HN.out; simp [intOf]; omega
            · rw [decide_eq_true r1, decide_eq_false r2] at hb1
              have r1z : (a : Int) ≤ (n : Int) := by omega
              have r2z : ¬ (n : Int) ≤ (b : Int) := by omega
              clear r1 r2
              go_wp2
              go_roundw
              case rel => exact ⟨n + 1, by have := HN.out; omega, by go_num, trivial⟩
              case measure => have := HN.out; simp [intOf]; omega
          · rw [decide_eq_false r1] at hb1
            have r1z : ¬ (a : Int) ≤ (n : Int) := by omega
            clear r1
            go_wp2
            go_roundw
            case rel => exact ⟨n + 1, by have := HN.out; omega, by go_num, trivial⟩
            case measure => have := HN.out; simp [intOf]; omega
        · have hb1 : ((z2 / 2 ^ m2).tmod 2 == 1) = (decide (a ≤ n) && decide (n ≤ b)) := hbt
          clear hbt
          by_cases r1 : a ≤ n
          · by_cases r2 : n ≤ b
            · rw [decide_eq_true r1, decide_eq_true r2] at hb1
              have r1z : (a : Int) ≤ (n : Int) := by omega
              have r2z : (n : Int) ≤ (b : Int) := by omega
              clear r1 r2
              go_wp2
              go_roundw
              case rel => exact ⟨n + 1, by have := HN.out; omega, by go_num, trivial⟩
              case measure => have := HN.out; simp [intOf]; omega
            · rw [decide_eq_true r1, decide_eq_false r2] at hb1
              have r1z : (a : Int) ≤ (n : Int) := by omega
              have r2z : ¬ (n : Int) ≤ (b : Int) := by omega
              clear r1 r2
              go_wp2
              go_roundw
              case rel => exact ⟨n + 1, by have := HN.out; omega, by go_num, trivial⟩
              case measure => have := HN.out; simp [intOf]; omega
          · rw [decide_eq_false r1] at hb1
            have r1z : ¬ (a : Int) ≤ (n : Int) := by omega
            clear r1
            go_wp2
            go_roundw
            case rel => exact ⟨n + 1, by have := HN.out; omega, by go_num, trivial⟩
            case measure => have := HN.out; simp [intOf]; omega
        · have hb1 : ((z3 / 2 ^ m2).tmod 2 == 1) = (decide (a ≤ n) && decide (n ≤ b)) := hbt
          clear hbt
          by_cases r1 : a ≤ n
          · by_cases r2 : n ≤ b
            · rw [decide_eq_true r1, decide_eq_true r2] at hb1
              have r1z : (a : Int) ≤ (n : Int) := by omega
              have r2z : (n : Int) ≤ (b : Int) := by omega
              clear r1 r2
              go_wp2
              go_roundw
              case rel => exact ⟨n + 1, by have := HN.out; omega, by go_num, trivial⟩
              case measure => have := HN.out; simp [intOf]; omega
            · rw [decide_eq_true r1, decide_eq_false r2] at hb1
              have r1z : (a : Int) ≤ (n : Int) := by omega
              have r2z : ¬ (n : Int) ≤ (b : Int) := by omega
              clear r1 r2
              go_wp2
              go_roundw
              case rel => exact ⟨n + 1, by have := HN.out; omega, by go_num, trivial⟩
              case measure => have := HN.out; simp [intOf]; omega
          · rw [decide_eq_false r1] at hb1
            have r1z : ¬ (a : Int) ≤ (n : Int) := by omega
            clear r1
            go_wp2
            go_roundw
            case rel => exact ⟨n + 1, by have := HN.out; omega, by go_num, trivial⟩
            case measure => have := HN.out; simp [intOf]; omega
      · have hnz : ¬ (n : Int) < 256 := by omega
        go_wp2
        go_ret
        exact ⟨rfl, hbw8⟩
  · have hw0 : y1 = 2 ^ m := HW.out
    clear HW
    go_wp2_with fail
    clear c0 c1 c2 c3 c4 c5 c6 c7 d0 d1 d2 d3 d4 d5 d6 d7 x1 x2 x3 x4 heq hw0 hmm hwp
    go_loopw [17] (fun i wr => ∃ n : Nat, n ≤ 256 ∧ i = .int .i64 n ∧ wr = w8) (fun i _ => 256 - (intOf i).toNat)
    case atStart => exact ⟨0, by omega, rfl, rfl⟩
    case round =>
      obtain ⟨n, hn, rfl, rfl⟩ := hrel
      by_cases hlt : n < 256
      · have hnz : (n : Int) < 256 := by omega
        obtain ⟨q, hq⟩ : ∃ q, q = n / 64 := ⟨_, rfl⟩
        obtain ⟨m2, hm2⟩ : ∃ m, m = n % 64 := ⟨_, rfl⟩
        have g1 : (n : Int) / 64 = (q : Int) := by omega
        have g2 : Int.tdiv (n : Int) 64 = (q : Int) := by rw [Int.tdiv_eq_ediv_of_nonneg (by omega)]; omega
        have g3 : (n : Int) % 64 = (m2 : Int) := by omega
        have g4 : Int.tmod (n : Int) 64 = (m2 : Int) := by rw [Int.tmod_eq_emod_of_nonneg (by omega)]; omega
        have hbt := bit_at S.out hlt
        rw [← hq, ← hm2] at hbt
        have hmm2 : m2 < 64 := by omega
        have hq4 : q = 0 ∨ q = 1 ∨ q = 2 ∨ q = 3 := by omega
        have HN := Lib.hid hlt
        clear hq hm2 hlt
        rcases hq4 with rfl | rfl | rfl | rfl
        · have hb1 : ((z0 / 2 ^ m2).tmod 2 == 1) = (decide (a ≤ n) && decide (n ≤ b)) := hbt
          clear hbt
          by_cases r1 : a ≤ n
          · by_cases r2 : n ≤ b
            · rw [decide_eq_true r1, decide_eq_true r2] at hb1
              have r1z : (a : Int) ≤ (n : Int) := by omega
              have r2z : (n : Int) ≤ (b : Int) := by omega
              clear r1 r2
              go_wp2
              go_roundw
              case rel => exact ⟨n + 1, by have := HN.out; omega, by go_num, trivial⟩
              case measure => have := HN.out; simp [intOf]; omega
            · rw [decide_eq_true r1, decide_eq_false r2] at hb1
              have r1z : (a : Int) ≤ (n : Int) := by omega
              have r2z : ¬ (n : Int) ≤ (b : Int) := by omega
              clear r1 r2
              go_wp2
              go_roundw
              case rel => exact ⟨n + 1, by have := HN.out; omega, by go_num, trivial⟩
              case measure => have := HN.out; simp [intOf]; omega
          · rw [decide_eq_false r1] at hb1
            have r1z : ¬ (a : Int) ≤ (n : Int) := by omega
            clear r1
            go_wp2
            go_roundw
            case rel => exact ⟨n + 1, by have := HN.out; omega, by go_num, trivial⟩
            case measure => have := HN.out; simp [intOf]; omega
        · have hb1 : ((z1 / 2 ^ m2).tmod 2 == 1) = (decide (a ≤ n) && decide (n ≤ b)) := hbt
          clear hbt
          by_cases r1 : a ≤ n
          · by_cases r2 : n ≤ b
            · rw [decide_eq_true r1, decide_eq_true r2] at hb1
              have r1z : (a : Int) ≤ (n : Int) := by omega
              have r2z : (n : Int) ≤ (b : Int) := by omega
              clear r1 r2
              go_wp2
              go_roundw
              case rel => exact ⟨n + 1, by have := HN.out; omega, by go_num, trivial⟩
              case measure => have := HN.out; simp [intOf]; omega
            · rw [decide_eq_true r1, decide_eq_false r2] at hb1
              have r1z : (a : Int) ≤ (n : Int) := by omega
              have r2z : ¬ (n : Int) ≤ (b : Int) := by omega
              clear r1 r2
              go_wp2
              go_roundw
              case rel => exact ⟨n + 1, by have := HN.out; omega, by go_num, trivial⟩
              case measure => have := HN.out; simp [intOf]; omega
          · rw [decide_eq_false r1] at hb1
            have r1z : ¬ (a : Int) ≤ (n : Int) := by omega
            clear r1
            go_wp2
            go_roundw
            case rel => exact ⟨n + 1, by have := HN.out; omega, by go_num, trivial⟩
            case measure => have := HN.out; simp [intOf]; omega
        · have hb1 : ((z2 / 2 ^ m2).tmod 2 == 1) = (decide (a ≤ n) && decide (n ≤ b)) := hbt
          clear hbt
          by_cases r1 : a ≤ n
          · by_cases r2 : n ≤ b
            · rw [decide_eq_true r1, decide_eq_true r2] at hb1
              have r1z : (a : Int) ≤ (n : Int) := by omega
              have r2z : (n : Int) ≤ (b : Int) := by omega
              clear r1 r2
              go_wp2
              go_roundw
              case rel => exact ⟨n + 1, by have := HN.out; omega, by go_num, trivial⟩
              case measure => have := HN.out; simp [intOf]; omega
            · rw [decide_eq_true r1, decide_eq_false r2] at hb1
              have r1z : (a : Int) ≤ (n : Int) := by omega
              have r2z : ¬ (n : Int) ≤ (b : Int) := by omega
              clear r1 r2
              go_wp2
              go_roundw
              case rel => exact ⟨n + 1, by have := HN.out; omega, by go_num, trivial⟩
              case measure => have := HN.out; simp [intOf]; omega
          · rw [decide_eq_false r1] at hb1
            have r1z : ¬ (a : Int) ≤ (n : Int) := by omega
            clear r1
            go_wp2
            go_roundw
            case rel => exact ⟨n + 1, by have := HN.out; omega, by go_num, trivial⟩
            case measure => have := HN.out; simp [intOf]; omega
        · have hb1 : ((z3 / 2 ^ m2).tmod 2 == 1) = (decide (a ≤ n) && decide (n ≤ b)) := hbt
          clear hbt
          by_cases r1 : a ≤ n
          · by_cases r2 : n ≤ b
            · rw [decide_eq_true r1, decide_eq_true r2] at hb1
              have r1z : (a : Int) ≤ (n : Int) := by omega
              have r2z : (n : Int) ≤ (b : Int) := by omega
              clear r1 r2
              go_wp2
              go_roundw
              case rel => exact ⟨n + 1, by have := HN.out; omega, by go_num, trivial⟩
              case measure => have := HN.out; simp [intOf]; omega
            · rw [decide_eq_true r1, decide_eq_false r2] at hb1
              have r1z : (a : Int) ≤ (n : Int) := by omega
              have r2z : ¬ (n : Int) ≤ (b : Int) := by omega
              clear r1 r2
              go_wp2
              go_roundw
              case rel => exact ⟨n + 1, by have := HN.out; omega, by go_num, trivial⟩
              case measure => have := HN.out; simp [intOf]; omega
          · rw [decide_eq_false r1] at hb1
            have r1z : ¬ (a : Int) ≤ (n : Int) := by omega
            clear r1
            go_wp2
            go_roundw
            case rel => exact ⟨n + 1, by have := HN.out; omega, by go_num, trivial⟩
            case measure => have := HN.out; simp [intOf]; omega
      · have hnz : ¬ (n : Int) < 256 := by omega
        go_wp2
        go_ret
        exact ⟨rfl, hbw8⟩
  · have hw0 : y2 = 2 ^ m := HW.out
    clear HW
    go_wp2_with fail
    clear c0 c1 c2 c3 c4 c5 c6 c7 d0 d1 d2 d3 d4 d5 d6 d7 x1 x2 x3 x4 heq hw0 hmm hwp
    go_loopw [17] (fun i wr => ∃ n : Nat, n ≤ 256 ∧ i = .int .i64 n ∧ wr = w8) (fun i _ => 256 - (intOf i).toNat)
    case atStart => exact ⟨0, by omega, rfl, rfl⟩
    case round =>
      obtain ⟨n, hn, rfl, rfl⟩ := hrel
      by_cases hlt : n < 256
      · have hnz : (n : Int) < 256 := by omega
        obtain ⟨q, hq⟩ : ∃ q, q = n / 64 := ⟨_, rfl⟩
        obtain ⟨m2, hm2⟩ : ∃ m, m = n % 64 := ⟨_, rfl⟩
        have g1 : (n : Int) / 64 = (q : Int) := by omega
        have g2 : Int.tdiv (n : Int) 64 = (q : Int) := by rw [Int.tdiv_eq_ediv_of_nonneg (by omega)]; omega
        have g3 : (n : Int) % 64 = (m2 : Int) := by omega
        have g4 : Int.tmod (n : Int) 64 = (m2 : Int) := by rw [Int.tmod_eq_emod_of_nonneg (by omega)]; omega
        have hbt := bit_at S.out hlt
        rw [← hq, ← hm2] at hbt
        have hmm2 : m2 < 64 := by omega
        have hq4 : q = 0 ∨ q = 1 ∨ q = 2 ∨ q = 3 := by omega
        have HN := Lib.hid hlt
        clear hq hm2 hlt
        rcases hq4 with rfl | rfl | rfl | rfl
        · have hb1 : ((z0 / 2 ^ m2).tmod 2 == 1) = (decide (a ≤ n) && decide (n ≤ b)) := hbt
          clear hbt
          by_cases r1 : a ≤ n
          · by_cases r2 : n ≤ b
            · rw [decide_eq_true r1, decide_eq_true r2] at hb1
              have r1z : (a : Int) ≤ (n : Int) := by omega
              have r2z : (n : Int) ≤ (b : Int) := by omega
              clear r1 r2
              go_wp2
              go_roundw
              case rel => exact ⟨n + 1, by have := HN.out; omega, by go_num, trivial⟩
              case measure => have := HN.out; simp [intOf]; omega
            · rw [decide_eq_true r1, decide_eq_false r2] at hb1
              have r1z : (a : Int) ≤ (n : Int) := by omega
              have r2z : ¬ (n : Int) ≤ (b : Int) := by omega
              clear r1 r2
              go_wp2
              go_roundw
              case rel => exact ⟨n + 1, by have := HN.out; omega, by go_num, trivial⟩
              case measure => have := HN.out; simp [intOf]; omega
          · rw [decide_eq_false r1] at hb1
            have r1z : ¬ (a : Int) ≤ (n : Int) := by omega
            clear r1
            go_wp2
            go_roundw
            case rel => exact ⟨n + 1, by have := HN.out; omega, by go_num, trivial⟩
            case measure => have := HN.out; simp [intOf]; omega
        · have hb1 : ((z1 / 2 ^ m2).tmod 2 == 1) = (decide (a ≤ n) && decide (n ≤ b)) := hbt
          clear hbt
          by_cases r1 : a ≤ n
          · by_cases r2 : n ≤ b
            · rw [decide_eq_true r1, decide_eq_true r2] at hb1
              have r1z : (a : Int) ≤ (n : Int) := by omega
              have r2z : (n : Int) ≤ (b : Int) := by omega
              clear r1 r2
              go_wp2
              go_roundw
              case rel => exact ⟨n + 1, by have := HN.out; omega, by go_num, trivial⟩
              case measure => have := HN.out; simp [intOf]; omega
            · rw [decide_eq_true r1, decide_eq_false r2] at hb1
              have r1z : (a : Int) ≤ (n : Int) := by omega
              have r2z : ¬ (n : Int) ≤ (b : Int) := by omega
              clear r1 r2
              go_wp2
              go_roundw
              case rel => exact ⟨n + 1, by have := HN.out; omega, by go_num, trivial⟩
              case measure => have := HN.out; simp [intOf]; omega
          · rw [decide_eq_false r1] at hb1
            have r1z : ¬ (a : Int) ≤ (n : Int) := by omega
            clear r1
            go_wp2
            go_roundw
            case rel => exact ⟨n + 1, by have := HN.out; omega, by go_num, trivial⟩
            case measure => have := HN.out; simp [intOf]; omega
        · have hb1 : ((z2 / 2 ^ m2).tmod 2 == 1) = (decide (a ≤ n) && decide (n ≤ b)) := hbt
          clear hbt
          by_cases r1 : a ≤ n
          · by_cases r2 : n ≤ b
            · rw [decide_eq_true r1, decide_eq_true r2] at hb1
              have r1z : (a : Int) ≤ (n : Int) := by omega
              have r2z : (n : Int) ≤ (b : Int) := by omega
              clear r1 r2
              go_wp2
              go_roundw
              case rel => exact ⟨n + 1, by have := HN.out; omega, by go_num, trivial⟩
              case measure => have := HN.out; simp [intOf]; omega
            · rw [decide_eq_true r1, decide_eq_false r2] at hb1
              have r1z : (a : Int) ≤ (n : Int) := by omega
              have r2z : ¬ (n : Int) ≤ (b : Int) := by omega
              clear r1 r2
              go_wp2
              go_roundw
              case rel => exact ⟨n + 1, by have := HN.out; omega, by go_num, trivial⟩
              case measure => have := HN.out; simp [intOf]; omega
          · rw [decide_eq_false r1] at hb1
            have r1z : ¬ (a : Int) ≤ (n : Int) := by omega
            clear r1
            go_wp2
            go_roundw
            case rel => exact ⟨n + 1, by have := HN.out; omega, by go_num, trivial⟩
            case measure => have := HN.out; simp [intOf]; omega
        · have hb1 : ((z3 / 2 ^ m2).tmod 2 == 1) = (decide (a ≤ n) && decide (n ≤ b)) := hbt
          clear hbt
          by_cases r1 : a ≤ n
          · by_cases r2 : n ≤ b
            · rw [decide_eq_true r1, decide_eq_true r2] at hb1
              have r1z : (a : Int) ≤ (n : Int) := by omega
              have r2z : (n : Int) ≤ (b : Int) := by omega
              clear r1 r2
              go_wp2
              go_roundw
              case rel => exact ⟨n + 1, by have := HN.out; omega, by go_num, trivial⟩
              case measure => have := HN.out; simp [intOf]; omega
            · rw [decide_eq_true r1, decide_eq_false r2] at hb1
              have r1z : (a : Int) ≤ (n : Int) := by omega
              have r2z : ¬ (n : Int) ≤ (b : Int) := by omega
              clear r1 r2
              go_wp2
              go_roundw
              case rel => exact ⟨n + 1, by have := HN.out; omega, by go_num, trivial⟩
              case measure => have := HN.out; simp [intOf]; omega
          · rw [decide_eq_false r1] at hb1
            have r1z : ¬ (a : Int) ≤ (n : Int) := by omega
            clear r1
            go_wp2
            go_roundw
            case rel => exact ⟨n + 1, by have := HN.out; omega, by go_num, trivial⟩
            case measure => have := HN.out; simp [intOf]; omega
      · have hnz : ¬ (n : Int) < 256 := by omega
        go_wp2
        go_ret
        exact ⟨rfl, hbw8⟩
  · have hw0 : y3 = 2 ^ m := HW.out
    clear HW
    go_wp2_with fail
    clear c0 c1 c2 c3 c4 c5 c6 c7 d0 d1 d2 d3 d4 d5 d6 d7 x1 x2 x3 x4 heq hw0 hmm hwp
    go_loopw [17] (fun i wr => ∃ n : Nat, n ≤ 256 ∧ i = .int .i64 n ∧ wr = w8) (fun i _ => 256 - (intOf i).toNat)
    case atStart => exact ⟨0, by omega, rfl, rfl⟩
    case round =>
      obtain ⟨n, hn, rfl, rfl⟩ := hrel
      by_cases hlt : n < 256
      · have hnz : (n : Int) < 256 := by omega
        obtain ⟨q, hq⟩ : ∃ q, q = n / 64 := ⟨_, rfl⟩
        obtain ⟨m2, hm2⟩ : ∃ m, m = n % 64 := ⟨_, rfl⟩
        have g1 : (n : Int) / 64 = (q : Int) := by omega
        have g2 : Int.tdiv (n : Int) 64 = (q : Int) := by rw [Int.tdiv_eq_ediv_of_nonneg (by omega)]; omega
        have g3 : (n : Int) % 64 = (m2 : Int) := by omega
        have g4 : Int.tmod (n : Int) 64 = (m2 : Int) := by rw [Int.tmod_eq_emod_of_nonneg (by omega)]; omega
        have hbt := bit_at S.out hlt
        rw [← hq, ← hm2] at hbt
        have hmm2 : m2 < 64 := by omega
        have hq4 : q = 0 ∨ q = 1 ∨ q = 2 ∨ q = 3 := by omega
        have HN := Lib.hid hlt
        clear hq hm2 hlt
        rcases hq4 with rfl | rfl | rfl | rfl
        · have hb1 : ((z0 / 2 ^ m2).tmod 2 == 1) = (decide (a ≤ n) && decide (n ≤ b)) := hbt
          clear hbt
          by_cases r1 : a ≤ n
          · by_cases r2 : n ≤ b
            · rw [decide_eq_true r1, decide_eq_true r2] at hb1
              have r1z : (a : Int) ≤ (n : Int) := by omega
              have r2z : (n : Int) ≤ (b : Int) := by omega
              clear r1 r2
              go_wp2
              go_roundw
              case rel => exact ⟨n + 1, by have := HN.out; omega, by go_num, trivial⟩
              case measure => have := HN.out; simp [intOf]; omega
            · rw [decide_eq_true r1, decide_eq_false r2] at hb1
              have r1z : (a : Int) ≤ (n : Int) := by omega
              have r2z : ¬ (n : Int) ≤ (b : Int) := by omega
              clear r1 r2
              go_wp2
              go_roundw
              case rel => exact ⟨n + 1, by have := HN.out; omega, by go_num, trivial⟩
              case measure => have := HN.out; simp [intOf]; omega
          · rw [decide_eq_false r1] at hb1
            have r1z : ¬ (a : Int) ≤ (n : Int) := by omega
            clear r1
            go_wp2
            go_roundw
            case rel => exact ⟨n + 1, by have := HN.out; omega, by go_num, trivial⟩
            case measure => have := HN.out; simp [intOf]; omega
        · have hb1 : ((z1 / 2 ^ m2).tmod 2 == 1) = (decide (a ≤ n) && decide (n ≤ b)) := hbt
          clear hbt
          by_cases r1 : a ≤ n
          · by_cases r2 : n ≤ b
            · rw [decide_eq_true r1, decide_eq_true r2] at hb1
              have r1z : (a : Int) ≤ (n : Int) := by omega
              have r2z : (n : Int) ≤ (b : Int) := by omega
              clear r1 r2
              go_wp2
              go_roundw
              case rel => exact ⟨n + 1, by have := HN.out; omega, by go_num, trivial⟩
              case measure => have := HN.out; simp [intOf]; omega
            · rw [decide_eq_true r1, decide_eq_false r2] at hb1
              have r1z : (a : Int) ≤ (n : Int) := by omega
              have r2z : ¬ (n : Int) ≤ (b : Int) := by omega
              clear r1 r2
              go_wp2
              go_roundw
              case rel => exact ⟨n + 1, by have := HN.out; omega, by go_num, trivial⟩
              case measure => have := HN.out; simp [intOf]; omega
          · rw [decide_eq_false r1] at hb1
            have r1z : ¬ (a : Int) ≤ (n : Int) := by omega
            clear r1
            go_wp2
            go_roundw
            case rel => exact ⟨n + 1, by have := HN.out; omega, by go_num, trivial⟩
            case measure => have := HN.out; simp [intOf]; omega
        · have hb1 : ((z2 / 2 ^ m2).tmod 2 == 1) = (decide (a ≤ n) && decide (n ≤ b)) := hbt
          clear hbt
          by_cases r1 : a ≤ n
          · by_cases r2 : n ≤ b
            · rw [decide_eq_true r1, decide_eq_true r2] at hb1
              have r1z : (a : Int) ≤ (n : Int) := by omega
              have r2z : (n : Int) ≤ (b : Int) := by omega
              clear r1 r2
              go_wp2
              go_roundw
              case rel => exact ⟨n + 1, by have := HN.out; omega, by go_num, trivial⟩
              case measure => have := HN.out; simp [intOf]; omega
            · rw [decide_eq_true r1, decide_eq_false r2] at hb1
              have r1z : (a : Int) ≤ (n : Int) := by omega
              have r2z : ¬ (n : Int) ≤ (b : Int) := by omega
              clear r1 r2
              go_wp2
              go_roundw
              case rel => exact ⟨n + 1, by have := HN.out; omega, by go_num, trivial⟩
              case measure => have := HN.out; simp [intOf]; omega
          · rw [decide_eq_false r1] at hb1
            have r1z : ¬ (a : Int) ≤ (n : Int) := by omega
            clear r1
            go_wp2
            go_roundw
            case rel => exact ⟨n + 1, by have := HN.out; omega, by go_num, trivial⟩
            case measure => have := HN.out; simp [intOf]; omega
        · have hb1 : ((z3 / 2 ^ m2).tmod 2 == 1) = (decide (a ≤ n) && decide (n ≤ b)) := hbt
          clear hbt
          by_cases r1 : a ≤ n
          · by_cases r2 : n ≤ b
            · rw [decide_eq_true r1, decide_eq_true r2] at hb1
              have r1z : (a : Int) ≤ (n : Int) := by omega
              have r2z : (n : Int) ≤ (b : Int) := by omega
              clear r1 r2
              go_wp2
              go_roundw
              case rel => exact ⟨n + 1, by have := HN.out; omega, by go_num, trivial⟩
              case measure => have := HN.out; simp [intOf]; omega
            · rw [decide_eq_true r1, decide_eq_false r2] at hb1
              have r1z : (a : Int) ≤ (n : Int) := by omega
              have r2z : ¬ (n : Int) ≤ (b : Int) := by omega
              clear r1 r2
              go_wp2
              go_roundw
              case rel => exact ⟨n + 1, by have := HN.out; omega, by go_num, trivial⟩
              case measure => have := HN.out; simp [intOf]; omega
          · rw [decide_eq_false r1] at hb1
            have r1z : ¬ (a : Int) ≤ (n : Int) := by omega
            clear r1
            go_wp2
            go_roundw
            case rel => exact ⟨n + 1, by have := HN.out; omega, by go_num, trivial⟩
            case measure => have := HN.out; simp [intOf]; omega
      · have hnz : ¬ (n : Int) < 256 := by omega
        go_wp2
        go_ret
        exact ⟨rfl, hbw8⟩
theorem wf_u8b {n : Int} (h : (Lit.int .u8 n).wf = true) : ∃ k : Nat, n = (k : Int) ∧ k ≤ 255 := by
  simp [Lit.wf, IntKind.min, IntKind.max, IntKind.signed, IntKind.bits] at h
  exact ⟨n.toNat, by omega, by omega⟩
end Go.Proofs.Ytmkcbbamfkafmaa.P
