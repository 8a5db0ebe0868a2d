/- A region that draws its order, walked by an invariant: what holds once these operations are done. No program in sight. -/
import Derived.Test.YthknfjiggdkcaaaDoorPop
import Derived.OrdersHeld
namespace Go.Proofs.YthknfjiggdkcaaaDoor
open Go.RowKit
/-! #### a region that draws its order, by what holds of the operations that are done -/
theorem cnt_set (L : Array Bool) (i : Nat) (hi : L.getD i true = false) : ∀ n, i < n → cnt (fun j => !(L.setIfInBounds i true).getD j true) n + 1 = cnt (fun j => !L.getD j true) n
  | 0, h => by omega
  | n + 1, h => by
    have hs : i < L.size := by
      rcases Nat.lt_or_ge i L.size with h' | h'
      · exact h'
      · rw [Array.getD_eq_getD_getElem?, Array.getElem?_eq_none h'] at hi; cases hi
    rw [cnt, cnt]
    by_cases e : i = n
    · subst e
      have h1 : cnt (fun j => !(L.setIfInBounds i true).getD j true) i = cnt (fun j => !L.getD j true) i := cnt_congr i fun j hj => by
        have hne : ¬ i = j := by omega
        simp only [Array.getD_eq_getD_getElem?, Array.getElem?_setIfInBounds, if_neg hne]
      rw [h1]
      simp only [Array.getD_eq_getD_getElem?, Array.getElem?_setIfInBounds] at hi ⊢
      rw [Array.getElem?_eq_getElem hs] at hi
      have hi' : L[i] = false := hi
      simp [hs, hi']
    · have := cnt_set L i hi n (by omega)
      have h2 : (L.setIfInBounds i true).getD n true = L.getD n true := by simp only [Array.getD_eq_getD_getElem?, Array.getElem?_setIfInBounds, if_neg e]
      rw [h2]
      omega
theorem wpAny_inv {P : Program} {ops : Array Oper} {Q : Exit → Act → World → Prop} (I : Array Bool → Act → World → Prop)
    (step : ∀ L a w i, I L a w → i ∈ Region.ready .any ops L → wpOp P ops Q i (fun a' w' => I (L.setIfInBounds i true) a' w') a w)
    (done : ∀ L a w, I L a w → Region.ready .any ops L = [] → Q .normal a w) :
    ∀ (fuel : Nat) (L : Array Bool) (a : Act) (w : World), cnt (fun j => !L.getD j true) ops.size ≤ fuel → I L a w → wpAny P .any ops Q fuel L a w
  | 0, L, a, w, hc, h => by
    have hn : Region.ready .any ops L = [] := by
      cases hr : Region.ready .any ops L with
      | nil => rfl
      | cons i r =>
        have hi : i ∈ Region.ready .any ops L := by rw [hr]; simp
        obtain ⟨h1, o, h2, _⟩ := mem_ready.1 hi
        have hlt := (Array.getElem?_eq_some_iff.1 h2).1
        have := cnt_set L i h1 ops.size hlt
        omega
    exact ⟨hn, done L a w h hn⟩
  | fuel + 1, L, a, w, hc, h => by
    refine ⟨fun hn => done L a w h hn, fun i hi => ?_⟩
    obtain ⟨h1, o, h2, _⟩ := mem_ready.1 hi
    have hlt := (Array.getElem?_eq_some_iff.1 h2).1
    have hcs := cnt_set L i h1 ops.size hlt
    exact wpOp_mono (fun a' w' h' => wpAny_inv I step done fuel _ a' w' (by omega) h') (step L a w i h hi)
theorem wp_region_inv {P : Program} {id : Nat} {ops : Array Oper} {Q : Exit → Act → World → Prop} {a : Act} {w : World} (I : Array Bool → Act → World → Prop) (hm : P.follows .mixedOrders = true)
    (h0 : I (Array.replicate ops.size false) a w.drew)
    (step : ∀ L a w i, I L a w → i ∈ Region.ready .any ops L → wpOp P ops Q i (fun a' w' => I (L.setIfInBounds i true) a' w') a w)
    (done : ∀ L a w, I L a w → Region.ready .any ops L = [] → Q .normal a w) : (Code.region id ops true).wp P Q a w :=
  wp_region_any hm (wpAny_inv I step done _ _ _ _ (cnt_le _ _) h0)
end Go.Proofs.YthknfjiggdkcaaaDoor
