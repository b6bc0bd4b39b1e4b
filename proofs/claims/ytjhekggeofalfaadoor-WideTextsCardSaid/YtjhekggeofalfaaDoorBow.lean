/- A block of bytes. -/
import Derived.Test.YtjhekggeofalfaaDoorBys
namespace Go.Proofs.YtjhekggeofalfaaDoor
open Go.RowKit

def bowOf (xs : List Int) : Array Value := (xs.map (Value.int .u8)).toArray
theorem bowOf_at (xs : List Int) {j : Nat} (h : j < xs.length) : (bowOf xs)[j]? = some (.int .u8 (lim xs j)) := by
  unfold bowOf; rw [List.getElem?_toArray]; exact getD_mapb xs j h
theorem bowOf_set (xs : List Int) (j : Nat) (v : Int) : (bowOf xs).setIfInBounds j (.int .u8 v) = bowOf (xs.set j v) := by
  unfold bowOf; rw [List.setIfInBounds_toArray, List.map_set]
theorem bowOf_of {cur : Array Value} {n : Nat} {xs : List Int} (hs : cur.size = n) (ht : cur.toList.take n = xs.map (Value.int .u8)) : cur = bowOf xs := by
  unfold bowOf
  rw [← ht, List.take_of_length_le (by simp [hs])]
theorem Blks.bow {w W : World} {l : List (Nat × Obj)} {g : Nat} {xs : List Int} {e : TypeId} (h : Blks w W l) (hm : (g, Obj.cells (bowOf xs) e (0, 0)) ∈ l) {j : Nat} (hj : j < xs.length) :
    W.cell? ⟨g, j, none⟩ = some (.int .u8 (lim xs j)) := (cell_of_row W g j _ _ _ (h.at_ hm)).trans (bowOf_at xs hj)
theorem Blks.bstore {w W : World} {g : Nat} {xs : List Int} {e : TypeId} {l : List (Nat × Obj)} (h : Blks w W ((g, Obj.cells (bowOf xs) e (0, 0)) :: l)) (hg : w.heap.size ≤ g) (hl : ∀ p ∈ l, p.1 ≠ g) (j : Nat) (v : Int) :
    Blks w (W.setCell ⟨g, j, none⟩ (.int .u8 v)) ((g, Obj.cells (bowOf (xs.set j v)) e (0, 0)) :: l) := by
  refine ⟨h.1.setCell (p := ⟨g, j, none⟩) hg _, fun p hp => ?_⟩
  rcases List.mem_cons.1 hp with rfl | hp
  · have h5 := h.at_ mem0
    rw [← bowOf_set]
    simp [World.setCell, Array.getElem?_modify, h5]
  · rw [Below.heap_setCell _ _ _ _ (hl p hp)]
    exact h.2 p (List.mem_cons_of_mem _ hp)
theorem Blks.isBys {w W : World} {l : List (Nat × Obj)} {g n : Nat} {xs : List Int} (h : Blks w W l) (hm : (g, Obj.cells (bowOf xs) 5 (0, 0)) ∈ l) (hn : xs.length = n) (hx : n ≤ maxLen) : IsBys W (.slice (some ⟨g, 0, none⟩) n n) xs := by
  subst hn
  exact ⟨_, _, rfl, Nat.le_refl _, hx, .inr ⟨g, 0, rfl, h.lt hm, fun i hi => by rw [Nat.zero_add]; exact h.bow hm hi⟩⟩
/-- What 'make' lays. -/
theorem Blks.bmade {w W W' : World} {n : Nat} {l : List (Nat × Obj)} (h : Blks w W l) (hg : W.grownBy W' none) {z : Value} (hz : z = .int .u8 0)
    (ho : W'.ownsRow w.heap.size 5 1 (.slice (some ⟨W.heap.size, 0, none⟩) n n) n (madeCells z.cells (n * 1)).toList) : Blks w W' ((W.heap.size, .cells (bowOf (List.replicate n 0)) 5 (0, 0)) :: l) := by
  have hb : Below W.heap.size W W' := (Below.refl _ _).grown hg (Nat.le_refl _) (fun k hk => by cases hk)
  refine ⟨(h.below hb).1, fun p hp => ?_⟩
  rcases List.mem_cons.1 hp with rfl | hp
  · rcases ho.2 with ⟨h1, -⟩ | ⟨g, cap, cur, hv, -, hgc, -, -, hs, ht⟩
    · cases h1
    · injection hv with e1 e2 e3
      injection e1 with e1
      injection e1 with e1
      subst e1 e3
      have : cur = bowOf (List.replicate n 0) := bowOf_of (n := n) (by simpa using hs) (by
        subst hz
        rw [Nat.mul_one] at ht
        rw [ht, List.map_replicate]
        exact toList_madeCells_one _ _)
      rw [← this]; exact hgc
  · exact (h.below hb).2 p hp
end Go.Proofs.YtjhekggeofalfaaDoor
