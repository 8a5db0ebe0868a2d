/- Plain words on memory: a queue: a slice of one-cell elements in a row of its own, that may begin anywhere in it; what is cut off ahead, and appended behind. No program in sight. -/
import Derived.Test.YtmfmniecoaihhaaK1
import Derived.Deep.AppendSrc
namespace Go.Proofs.Ytmfmniecoaihhaa
open Go.RowKit

/-- A queue: the slice v holds xs, in a row of its own from base on; or it is nil. -/
def Qu (w : World) (base : Nat) (e : TypeId) (v : Value) (xs : List Value) : Prop :=
  (v = .slice none 0 0 ∧ xs = []) ∨
  ∃ g off cap cur, v = .slice (some ⟨g, off, none⟩) xs.length cap ∧ base ≤ g ∧ w.heap[g]? = some (.cells cur e) ∧ xs.length ≤ cap ∧ cap ≤ maxLen ∧ off + cap ≤ cur.size ∧ (cur.toList.drop off).take xs.length = xs
namespace Qu
variable {w w' : World} {base : Nat} {e : TypeId} {v : Value} {xs : List Value}
theorem nil (w : World) (base : Nat) (e : TypeId) : Qu w base e (.slice none 0 0) [] := .inl ⟨rfl, rfl⟩
theorem get {cur : Array Value} {off : Nat} (h : (cur.toList.drop off).take xs.length = xs) {j : Nat} {u : Value} (hu : xs[j]? = some u) : cur[off + j]? = some u := by
  have hj : j < xs.length := (List.getElem?_eq_some_iff.1 hu).1
  rw [← h, List.getElem?_take, if_pos hj, List.getElem?_drop] at hu
  rwa [← Array.getElem?_toList]
theorem sl (h : Qu w base e v xs) : ∃ A c, v = .slice A xs.length c ∧ Sl w A c xs ∧ ∀ ad, A = some ad → base ≤ ad.block ∧ v.ownBlock = some ad.block ∧ ad.block < w.heap.size := by
  rcases h with ⟨rfl, rfl⟩ | ⟨g, off, cap, cur, hv, hb, hg, hn, hm, hs, ht⟩
  · exact ⟨none, 0, rfl, Sl.none_ w, fun _ e => by cases e⟩
  · refine ⟨some ⟨g, off, none⟩, cap, hv, ⟨hn, by unfold maxLen at hm; omega, fun e => (by cases e), fun ad e j u hu => ?_⟩, fun ad e => ?_⟩
    · cases e
      rw [Addr.add_lit, blk_cell hg]
      exact get ht hu
    · cases e
      exact ⟨hb, by rw [hv]; rfl, blk_lt hg⟩
theorem lt (h : Qu w base e v xs) : ∀ k, v.ownBlock = some k → base ≤ k ∧ k < w.heap.size := by
  rcases h with ⟨rfl, rfl⟩ | ⟨g, off, cap, cur, rfl, hb, hg, hn, hm, hs, ht⟩
  · intro k hk
    simp [Value.ownBlock] at hk
  · intro k hk
    have : g = k := by simpa [Value.ownBlock] using hk
    subst this
    exact ⟨hb, blk_lt hg⟩
theorem keep (h : Qu w base e v xs) (hk : ∀ k, v.ownBlock = some k → k < w.heap.size → w'.heap[k]? = w.heap[k]?) : Qu w' base e v xs := by
  rcases h with ⟨rfl, rfl⟩ | ⟨g, off, cap, cur, rfl, hb, hg, hn, hm, hs, ht⟩
  · exact nil _ _ _
  · exact .inr ⟨g, off, cap, cur, rfl, hb, (hk g rfl (blk_lt hg)).trans hg, hn, hm, hs, ht⟩
theorem below (h : Qu w base e v xs) (hb : Below w.heap.size w w') : Qu w' base e v xs := h.keep fun k _ hk => hb.block k hk
theorem kept {row : Option Nat} (h : Qu w base e v xs) (hg : w.grownBy w' row) (hne : v.ownBlock = none ∨ v.ownBlock ≠ row) : Qu w' base e v xs :=
  h.keep fun k hk hlt => hg.block k hlt fun e => by
    rw [hk] at hne
    rcases hne with h | h
    · cases h
    · exact h e
theorem alloc (h : Qu w base e v xs) (o : Obj) : Qu (w.alloc o) base e v xs := h.below ((Below.refl _ w).alloc (Nat.le_refl _) o)
theorem drew (h : Qu w base e v xs) : Qu w.drew base e v xs := h.keep fun _ _ _ => rfl
theorem far (h : Qu w base e v xs) {a : Addr} (ha : v.ownBlock ≠ some a.block) (u : Value) : Qu (w.setCell a u) base e v xs :=
  h.keep fun k hk _ => Below.heap_setCell w a u k (fun e => ha (by rw [hk, e]))
theorem ne_blk (h : Qu w base e v xs) {g : Nat} {cs : Array Value} {t : TypeId} {fr : Nat × Nat} (hg : w.heap[g]? = some (.cells cs t fr)) (hne : e ≠ t) : v.ownBlock ≠ some g := by
  rcases h with ⟨rfl, _⟩ | ⟨g', off, cap, cur, rfl, _, hh, _⟩
  · simp [Value.ownBlock]
  · intro he
    have : g' = g := by simpa [Value.ownBlock] using he
    subst this
    rw [hh] at hg
    injection hg with hg
    injection hg with _ ht
    exact hne ht
theorem mono {base' : Nat} (h : Qu w base e v xs) (hb : ∀ k, v.ownBlock = some k → base' ≤ k) : Qu w base' e v xs := by
  rcases h with h | ⟨g, off, cap, cur, rfl, _, hh⟩
  · exact .inl h
  · exact .inr ⟨g, off, cap, cur, rfl, hb g rfl, hh⟩
theorem of_ow (h : Ow w base e v xs) : Qu w base e v xs := by
  rcases h.2 with ⟨rfl, h0⟩ | ⟨g, cap, cur, hv, hb, hg, hn, hm, hs, ht⟩
  · exact .inl ⟨rfl, List.eq_nil_of_length_eq_zero h0⟩
  · exact .inr ⟨g, 0, cap, cur, hv, hb, hg, hn, hm, by omega, by simpa using ht⟩
/-- The first is cut off. -/
theorem drop1 {x : Value} {A : Option Addr} {n c : Nat} (h : Qu w base e (.slice A n c) (x :: xs)) : Qu w base e (.slice (if c = 1 then A else A.map (·.add 1)) (n - 1) (c - 1)) xs := by
  rcases h with ⟨_, h0⟩ | ⟨g, off, cap, cur, hv, hb, hg, hn, hm, hs, ht⟩
  · cases h0
  · injection hv with h1 h2 h3
    subst h1 h2 h3
    rw [List.length_cons] at hn ht ⊢
    have hd : (cur.toList.drop (off + 1)).take xs.length = xs := by
      have := congrArg (List.drop 1) ht
      rw [List.drop_take, List.drop_drop] at this
      simpa using this
    by_cases hc : c = 1
    · subst hc
      have : xs = [] := List.eq_nil_of_length_eq_zero (by omega)
      subst this
      exact .inr ⟨g, off, 0, cur, by simp, hb, hg, Nat.le_refl _, by unfold maxLen; omega, by omega, by simp⟩
    · exact .inr ⟨g, off + 1, c - 1, cur, by rw [if_neg hc]; simp [Addr.add_lit], hb, hg, by omega, by omega, by omega, hd⟩
end Qu

section
variable {P : Program} (w : World)
theorem run_append_qu (base : Nat) (t ty e : TypeId) (i : TypeInfo) (z : Value) (bytes : Nat) (ht : P.underlying t = some (.slice e)) (hi : P.info? e = some i) (hz : i.zero = some z)
    (hsize : i.size = 1) (hby : i.bytes = bytes) (hzs : z.cells.size = 1) (v : Value) (xs : List Value) (hq : Qu w base e v xs)
    (ad : Addr) (c : Nat) (u : Value) (hu : w.cell? (ad.add 0) = some u) (h1 : u.oneCell' = true)
    (hbytes : (xs.length + 1) * bytes ≤ 140737488355328) (h0 : 0 < bytes) (hbase : base ≤ w.heap.size) :
    ∃ v' w', (Builtin.append_ #[t, t] ty #[v, .slice (some ad) 1 c]).run P w = .ok v' w' ∧ Qu w' base e v' (xs ++ [u]) ∧ w.grownBy w' v.ownBlock ∧ (v'.ownBlock = v.ownBlock ∨ v'.ownBlock = some w.heap.size) := by
  have h63 : xs.length + 1 ≤ 140737488355328 := Nat.le_trans (Nat.le_mul_of_pos_right _ h0) hbytes
  have hone : ∀ x ∈ [u], x.oneCell' = true := fun x hx => by rw [List.mem_singleton] at hx; subst hx; exact h1
  have hnews : ∀ j x, [u][j]? = some x → w.cell? (ad.add j) = some x := fun j x hx => by
    match j, hx with
    | 0, hx => cases hx; exact hu
  rcases hq with ⟨rfl, rfl⟩ | ⟨g, off, cap, cur, rfl, hb, hg, hn, hm, hs, htk⟩
  · obtain ⟨v', w', hr, h2, h3, _, h5⟩ := run_append_own_at (P := P) w base t ty e i z 1 bytes ht hi hz hsize hby hzs (by omega) (.slice none 0 0) 0 [] (World.ownsRow_nil w base e 1) ad 1 c [u] rfl hnews hone (by unfold maxLen; omega) (by simpa using hbytes) hbase
    exact ⟨v', w', hr, Qu.of_ow h2, h3, h5⟩
  · have hsrc : Src P i.size t (.slice (some ad) 1 c) 1 [u] w := Src.ofSlice w ht ad 1 c [u] (by simp [hsize]) hnews hone
    by_cases hroom : xs.length + 1 ≤ cap
    · have hj : off + xs.length < cur.size := by omega
      have hr := run_append_room_src (P := P) w t t ty e i ht hi g off xs.length cap (.slice (some ad) 1 c) 1 [u] hsrc hroom
        (fun j hj' => by
          have : j = 0 := by simpa using hj'
          subst this
          rw [hsize, blk_cell hg]
          simp [Array.getElem?_eq_getElem (show off + xs.length < cur.size by omega)])
        (fun j hj' => blk_frozen hg _)
      rw [hsize] at hr
      simp only [Nat.mul_one] at hr
      refine ⟨_, _, hr, .inr ⟨g, off, cap, cur.setIfInBounds (off + xs.length) u, by simp, hb, blk_set hg (off + xs.length) u, by simp; omega, hm, by simp; omega, ?_⟩, ⟨rfl, rfl, rfl, by simp [World.setCells, World.setCell], fun k hk hne => ?_⟩, .inl rfl⟩
      · have e1 : (xs ++ [u]).length = xs.length + 1 := by simp
        rw [e1]
        apply List.ext_getElem?
        intro j
        rw [List.getElem?_take]
        by_cases hjl : j < xs.length + 1
        · rw [if_pos hjl, List.getElem?_drop, Array.getElem?_toList, Array.getElem?_setIfInBounds]
          by_cases hjx : j = xs.length
          · subst hjx
            simp [hj]
          · rw [if_neg (by omega), List.getElem?_append_left (by omega)]
            have := List.getElem?_eq_getElem (show j < xs.length by omega)
            rw [this]
            exact Qu.get htk this
        · rw [if_neg hjl, List.getElem?_eq_none (by simp; omega)]
      · exact Below.heap_setCell w ⟨g, off + xs.length, none⟩ u k (fun e => hne (by rw [e]; rfl))
    · have hold : ∀ j x, xs[j]? = some x → w.drew.cell? ((⟨g, off, none⟩ : Addr).add j) = some x := fun j x hx => by
        rw [Addr.add_lit]
        exact (blk_cell (w := w.drew) (show w.drew.heap[g]? = some (.cells cur e) from hg) _).trans (Qu.get htk hx)
      have hr := run_append_grow_src (P := P) w t t ty e i z ht hi hz (some ⟨g, off, none⟩) xs.length cap xs (by rw [hsize]; exact run_firstCells_some w.drew 1 xs.length ⟨g, off, none⟩ xs.length cap xs (by simp) hold) (.slice (some ad) 1 c) 1 [u] hsrc (by omega) (by omega) (growslice_fits (by omega) (by rw [hby]; exact hbytes))
      refine ⟨_, _, hr, .inr ⟨w.heap.size, 0, grownCap w (xs.length + 1) cap e, _, by simp, hbase, heap_alloc_new w.drew _, by simp; exact grownCap_ge w _ _ e, grownCap_le_maxLen w _ _ e (by unfold maxLen; omega), ?_, ?_⟩, ⟨rfl, rfl, rfl, by simp, fun k hk _ => Below.heap_alloc w.drew _ k hk⟩, .inr rfl⟩
      · have := grownCap_ge w (xs.length + 1) cap e
        simp only [Array.size_append, List.size_toArray, size_zeroCells, hzs, List.length_append, List.length_singleton]
        omega
      · show List.take (xs ++ [u]).length (List.drop 0 ((xs ++ [u]).toArray ++ _).toList) = _
        rw [Array.toList_append]
        exact List.take_left
theorem wp_append_qu {o : Oper} {a : Act} {K : Act → World → Prop} {Q : Exit → Act → World → Prop} (s x : Operand) (t : TypeId)
    (ho : o.op = .call { callee := .builtin .append, args := #[s, x], argTypes := #[t, t] })
    (base : Nat) (e : TypeId) (i : TypeInfo) (z : Value) (bytes : Nat) (ht : P.underlying t = some (.slice e)) (hi : P.info? e = some i) (hz : i.zero = some z)
    (hsize : i.size = 1) (hby : i.bytes = bytes) (hzs : z.cells.size = 1) (v : Value) (xs : List Value) (hs : a.eval s = v) (hq : Qu w base e v xs)
    (ad : Addr) (c : Nat) (u : Value) (hx : a.eval x = .slice (some ad) 1 c) (hu : w.cell? (ad.add 0) = some u) (h1 : u.oneCell' = true)
    (hbytes : (xs.length + 1) * bytes ≤ 140737488355328) (h0 : 0 < bytes) (hbase : base ≤ w.heap.size)
    (h : ∀ v' w', Qu w' base e v' (xs ++ [u]) → w.grownBy w' v.ownBlock → (v'.ownBlock = v.ownBlock ∨ v'.ownBlock = some w.heap.size) → K (a.put o.dst v') w') : o.wp P a w K Q := by
  obtain ⟨v', w', hrun, h2, h3, h4⟩ := run_append_qu (P := P) w base t o.type e i z bytes ht hi hz hsize hby hzs v xs hq ad c u hu h1 hbytes h0 hbase
  unfold Oper.wp execOp
  simp only [ho, resolve, invoke, builtin, Sem.run_bind, Sem.run_pure, Result.andThen_ok, List.map_toArray, List.map_cons, List.map_nil, hs, hx, hrun]
  exact h v' w' h2 h3 h4
theorem wpList_append_qu {ops : Array Oper} {rest : List Oper} {o : Oper} {a : Act} {Q : Exit → Act → World → Prop} (hgd : o.guard = none) (s x : Operand) (t : TypeId)
    (ho : o.op = .call { callee := .builtin .append, args := #[s, x], argTypes := #[t, t] })
    (base : Nat) (e : TypeId) (i : TypeInfo) (z : Value) (bytes : Nat) (ht : P.underlying t = some (.slice e)) (hi : P.info? e = some i) (hz : i.zero = some z)
    (hsize : i.size = 1) (hby : i.bytes = bytes) (hzs : z.cells.size = 1) (v : Value) (xs : List Value) (hs : a.eval s = v) (hq : Qu w base e v xs)
    (ad : Addr) (c : Nat) (u : Value) (hx : a.eval x = .slice (some ad) 1 c) (hu : w.cell? (ad.add 0) = some u) (h1 : u.oneCell' = true)
    (hbytes : (xs.length + 1) * bytes ≤ 140737488355328) (h0 : 0 < bytes) (hbase : base ≤ w.heap.size)
    (h : ∀ v' w', Qu w' base e v' (xs ++ [u]) → w.grownBy w' v.ownBlock → (v'.ownBlock = v.ownBlock ∨ v'.ownBlock = some w.heap.size) → wpList P ops Q rest (a.put o.dst v') w') : wpList P ops Q (o :: rest) a w :=
  wpList_plain hgd fun _ hK => wp_append_qu w s x t ho base e i z bytes ht hi hz hsize hby hzs v xs hs hq ad c u hx hu h1 hbytes h0 hbase fun v' w' h2 h3 h4 => hK _ _ (h v' w' h2 h3 h4)
theorem step_append_qu {ops : Array Oper} {o : Oper} {a : Act} {K : Act → World → Prop} {Q : Exit → Act → World → Prop} {E : Prop} (hgd : o.guard = none) (s x : Operand) (t : TypeId)
    (ho : o.op = .call { callee := .builtin .append, args := #[s, x], argTypes := #[t, t] })
    (base : Nat) (e : TypeId) (i : TypeInfo) (z : Value) (bytes : Nat) (ht : P.underlying t = some (.slice e)) (hi : P.info? e = some i) (hz : i.zero = some z)
    (hsize : i.size = 1) (hby : i.bytes = bytes) (hzs : z.cells.size = 1) (v : Value) (xs : List Value) (hs : a.eval s = v) (hq : Qu w base e v xs)
    (ad : Addr) (c : Nat) (u : Value) (hx : a.eval x = .slice (some ad) 1 c) (hu : w.cell? (ad.add 0) = some u) (h1 : u.oneCell' = true)
    (hbytes : (xs.length + 1) * bytes ≤ 140737488355328) (h0 : 0 < bytes) (hbase : base ≤ w.heap.size)
    (h : ∀ v' w', Qu w' base e v' (xs ++ [u]) → w.grownBy w' v.ownBlock → (v'.ownBlock = v.ownBlock ∨ v'.ownBlock = some w.heap.size) → K (a.put o.dst v') w') : if Region.wanted o (yielded ops a.tmps) = true then Oper.wp P o a w K Q else E := by
  rw [if_pos (by simp [Region.wanted, hgd])]
  exact wp_append_qu w s x t ho base e i z bytes ht hi hz hsize hby hzs v xs hs hq ad c u hx hu h1 hbytes h0 hbase h
end
end Go.Proofs.Ytmfmniecoaihhaa
