/- Plain: the product of two rows of limbs, limb by limb; a block of integers that the call has made and stores into. -/
import Derived.Test.YtjhekggeofalfaaDoorNum4
import Derived.Test.YtjhekggeofalfaaDoorBlks
namespace Go.Proofs.YtjhekggeofalfaaDoor
open Go.RowKit

theorem lim_zero {xs : List Int} (h : Limbs xs) {j : Nat} (hv : val xs < pw j) : lim xs j = 0 := by
  rcases Nat.lt_or_ge j xs.length with hj | hj
  · have e1 := val_split xs j (by omega)
    have e2 := val_drop xs j
    have n1 := val_nonneg (h.take j)
    have n2 := val_nonneg (h.drop (j + 1))
    have b := h.getD j
    have hp := pw_pos j
    by_cases hz : lim xs j = 0
    · exact hz
    · have : pw j * 1 ≤ pw j * val (xs.drop j) := Int.mul_le_mul_of_nonneg_left (by omega) (by omega)
      omega
  · exact getD_out xs hj
theorem val_set (v : Int) : ∀ (xs : List Int) (j : Nat), j < xs.length → val (xs.set j v) = val xs + pw j * (v - lim xs j)
  | [], j, h => by simp at h
  | x :: xs, 0, _ => by
    rw [List.set_cons_zero, val_cons, val_cons, pw_zero, show lim (x :: xs) 0 = x from rfl]; omega
  | x :: xs, j + 1, h => by
    rw [List.set_cons_succ, val_cons, val_cons, val_set v xs j (by simpa using h), pw_succ, show lim (x :: xs) (j + 1) = lim xs j from rfl, Int.mul_add, Int.mul_assoc]; omega
theorem Limbs.set {xs : List Int} (h : Limbs xs) {v : Int} (h0 : 0 ≤ v) (h1 : v < 65536) (j : Nat) : Limbs (xs.set j v) := fun d hd => by
  rcases List.mem_or_eq_of_mem_set hd with e | e
  · exact h d e
  · subst e; exact ⟨h0, h1⟩
theorem lim_set_ne (xs : List Int) {i j : Nat} (v : Int) (h : i ≠ j) : lim (xs.set j v) i = lim xs i := by
  unfold lim
  rw [List.getD_eq_getElem?_getD, List.getD_eq_getElem?_getD, List.getElem?_set_ne (by omega)]
theorem prod_bound {x y : Int} (h0 : 0 ≤ x) (h1 : x < 65536) (h2 : 0 ≤ y) (h3 : y < 65536) : 0 ≤ x * y ∧ x * y ≤ 4294836225 := by
  refine ⟨Int.mul_nonneg h0 h2, ?_⟩
  have := Int.mul_le_mul (show x ≤ 65535 by omega) (show y ≤ 65535 by omega) h2 (by decide)
  omega
/-- One limb of the product. -/
theorem mul_step {xs b : List Int} {i k : Nat} {c ai V : Int} (hl : Limbs xs) (hj : i + k < xs.length) (h0 : 0 ≤ c) (h1 : c < 65536) (ha0 : 0 ≤ ai) (ha1 : ai < 65536) (lb : Limbs b)
    (hv : val xs + pw (i + k) * c = V + pw i * (ai * val (b.take k))) :
    let s := c + (lim xs (i + k) + ai * lim b k)
    0 ≤ s ∧ s ≤ 4294967295 ∧ 0 ≤ s / 65536 ∧ s / 65536 < 65536 ∧ Limbs (xs.set (i + k) (s % 65536)) ∧
      val (xs.set (i + k) (s % 65536)) + pw (i + k + 1) * (s / 65536) = V + pw i * (ai * val (b.take (k + 1))) := by
  intro s
  have b1 := hl.getD (i + k)
  have b2 := lb.getD k
  obtain ⟨p0, p1⟩ := prod_bound ha0 ha1 b2.1 b2.2
  have hs : s = c + (lim xs (i + k) + ai * lim b k) := rfl
  refine ⟨by omega, by omega, by omega, by omega, hl.set (by omega) (by omega) _, ?_⟩
  rw [val_set _ _ _ hj, val_take_succ, pw_succ]
  have e1 : 65536 * pw (i + k) * (s / 65536) = pw (i + k) * (65536 * (s / 65536)) := by rw [Int.mul_comm 65536, Int.mul_assoc]
  have e2 : pw (i + k) * (s % 65536 - lim xs (i + k)) + pw (i + k) * (65536 * (s / 65536)) = pw (i + k) * (c + ai * lim b k) := by
    rw [← Int.mul_add]; congr 1; omega
  have e3 : pw i * (ai * (val (b.take k) + pw k * lim b k)) = pw i * (ai * val (b.take k)) + pw (i + k) * (ai * lim b k) := by
    rw [Int.mul_add, Int.mul_add, pw_add, Int.mul_left_comm ai (pw k) (lim b k), Int.mul_assoc (pw i)]
  rw [e3, e1, Int.add_assoc, e2, Int.mul_add]
  omega
/-- Behind the highest limb nothing is left. -/
theorem mul_last {xs b : List Int} {i k : Nat} {c ai V : Int} (hk : b.length ≤ k) (hc : c = 0) (hv : val xs + pw (i + k) * c = V + pw i * (ai * val (b.take k))) : val xs = V + pw i * (ai * val b) := by
  rw [take_all b hk] at hv
  subst hc
  omega
theorem mul_row {a b : List Int} {i : Nat} {V : Int} (hV : V = val (a.take i) * val b) : V + pw i * (lim a i * val b) = val (a.take (i + 1)) * val b := by
  rw [val_take_succ, Int.add_mul, hV, Int.mul_assoc]
theorem mul_less {a b xs : List Int} {i : Nat} (la : Limbs a) (lb : Limbs b) (hV : val xs = val (a.take i) * val b) : val xs < pw (i + b.length) := by
  have h1 := val_take_lt la i
  have h2 := val_take_nonneg la i
  have h3 := val_lt lb
  have h4 := val_nonneg lb
  have hp := pw_pos i
  rw [hV, pw_add]
  have e1 : val (a.take i) * val b ≤ pw i * val b := Int.mul_le_mul_of_nonneg_right (by omega) h4
  have e2 : pw i * val b < pw i * pw b.length := Int.mul_lt_mul_of_pos_left h3 hp
  omega

/-! ### A block of integers -/
def rowOf (xs : List Int) : Array Value := (xs.map (Value.int .i64)).toArray
theorem rowOf_at (xs : List Int) {j : Nat} (h : j < xs.length) : (rowOf xs)[j]? = some (.int .i64 (lim xs j)) := by
  unfold rowOf; rw [List.getElem?_toArray]; exact getD_map xs j h
theorem rowOf_set (xs : List Int) (j : Nat) (v : Int) : (rowOf xs).setIfInBounds j (.int .i64 v) = rowOf (xs.set j v) := by
  unfold rowOf; rw [List.setIfInBounds_toArray, List.map_set]
theorem rowOf_of {cur : Array Value} {n : Nat} {xs : List Int} (hs : cur.size = n) (ht : cur.toList.take n = xs.map (Value.int .i64)) : cur = rowOf xs := by
  unfold rowOf
  rw [← ht, List.take_of_length_le (by simp [hs])]
theorem Blks.row {w W : World} {l : List (Nat × Obj)} {g : Nat} {xs : List Int} {e : TypeId} (h : Blks w W l) (hm : (g, Obj.cells (rowOf xs) e (0, 0)) ∈ l) {j : Nat} (hj : j < xs.length) :
    W.cell? ⟨g, j, none⟩ = some (.int .i64 (lim xs j)) := (cell_of_row W g j _ _ _ (h.at_ hm)).trans (rowOf_at xs hj)
theorem Blks.store {w W : World} {g : Nat} {xs : List Int} {e : TypeId} {l : List (Nat × Obj)} (h : Blks w W ((g, Obj.cells (rowOf xs) e (0, 0)) :: l)) (hg : w.heap.size ≤ g) (hl : ∀ p ∈ l, p.1 ≠ g) (j : Nat) (v : Int) :
    Blks w (W.setCell ⟨g, j, none⟩ (.int .i64 v)) ((g, Obj.cells (rowOf (xs.set j v)) e (0, 0)) :: l) := by
  refine ⟨h.1.setCell (p := ⟨g, j, none⟩) hg _, fun p hp => ?_⟩
  rcases List.mem_cons.1 hp with rfl | hp
  · have h5 := h.at_ mem0
    rw [← rowOf_set]
    simp [World.setCell, Array.getElem?_modify, h5]
  · rw [Below.heap_setCell _ _ _ _ (hl p hp)]
    exact h.2 p (List.mem_cons_of_mem _ hp)
theorem Blks.isRow {w W : World} {l : List (Nat × Obj)} {g n : Nat} {xs : List Int} (h : Blks w W l) (hm : (g, Obj.cells (rowOf xs) 3 (0, 0)) ∈ l) (hn : xs.length = n) (hx : n ≤ maxLen) : IsRow W (.slice (some ⟨g, 0, none⟩) n n) xs := by
  subst hn
  exact ⟨_, _, rfl, Nat.le_refl _, hx, .inr ⟨g, 0, _, rfl, h.at_ hm, fun i hi => by rw [Nat.zero_add]; exact rowOf_at xs hi⟩⟩
/-- What 'make' lays. -/
theorem Blks.made {w W W' : World} {n : Nat} {l : List (Nat × Obj)} (h : Blks w W l) (hg : W.grownBy W' none) {z : Value} (hz : z = .int .i64 0)
    (ho : W'.ownsRow w.heap.size 3 1 (.slice (some ⟨W.heap.size, 0, none⟩) n n) n (madeCells z.cells (n * 1)).toList) : Blks w W' ((W.heap.size, .cells (rowOf (List.replicate n 0)) 3 (0, 0)) :: l) := by
  have hb : Below W.heap.size W W' := (Below.refl _ _).grown hg (Nat.le_refl _) (fun k hk => by cases hk)
  refine ⟨(h.below hb).1, fun p hp => ?_⟩
  rcases List.mem_cons.1 hp with rfl | hp
  · rcases ho.2 with ⟨h1, -⟩ | ⟨g, cap, cur, hv, -, hgc, -, -, hs, ht⟩
    · cases h1
    · injection hv with e1 e2 e3
      injection e1 with e1
      injection e1 with e1
      subst e1 e3
      have : cur = rowOf (List.replicate n 0) := rowOf_of (n := n) (by simpa using hs) (by
        subst hz
        rw [Nat.mul_one] at ht
        rw [ht, List.map_replicate]
        exact toList_madeCells_one _ _)
      rw [← this]; exact hgc
  · exact (h.below hb).2 p hp
theorem val_replicate (n : Nat) : val (List.replicate n 0) = 0 := by
  induction n with
  | zero => rfl
  | succ n ih => rw [List.replicate_succ, val_cons, ih]; rfl
theorem limbs_replicate (n : Nat) : Limbs (List.replicate n 0) := fun d hd => by rw [(List.mem_replicate.1 hd).2]; decide
theorem sign_num (p q : Bool) (x y : Int) (hp : decide (x < 0) = p) (hq : decide (y < 0) = q) : numOf (p != q) ((x.natAbs : Int) * (y.natAbs : Int)) = x * y := by
  subst hp hq
  by_cases hx : x < 0 <;> by_cases hy : y < 0
  · rw [show (x.natAbs : Int) = -x by omega, show (y.natAbs : Int) = -y by omega, decide_eq_true hx, decide_eq_true hy, Int.neg_mul_neg]; rfl
  · rw [show (x.natAbs : Int) = -x by omega, show (y.natAbs : Int) = y by omega, decide_eq_true hx, decide_eq_false hy, Int.neg_mul]; show - -(x * y) = _; omega
  · rw [show (x.natAbs : Int) = x by omega, show (y.natAbs : Int) = -y by omega, decide_eq_false hx, decide_eq_true hy, Int.mul_neg]; show - -(x * y) = _; omega
  · rw [show (x.natAbs : Int) = x by omega, show (y.natAbs : Int) = y by omega, decide_eq_false hx, decide_eq_false hy]; rfl
end Go.Proofs.YtjhekggeofalfaaDoor
