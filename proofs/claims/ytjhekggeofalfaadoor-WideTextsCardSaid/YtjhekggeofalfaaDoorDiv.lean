/- Contract of noonmarkref01.Div: long division, bit by bit. -/
import Derived.Test.YtjhekggeofalfaaDoorNum4
namespace Go.Proofs.YtjhekggeofalfaaDoor
open Go.RowKit

/-- The slice v reads as the canonical limbs of z. -/
def RowIs (w : World) (v : Value) (z : Int) : Prop := ∃ ds, IsRow w v ds ∧ Canon ds ∧ val ds = z
theorem RowIs.below {w w' : World} {v : Value} {z : Int} (h : RowIs w v z) (hb : Below w.heap.size w w') : RowIs w' v z := by
  obtain ⟨ds, h1, h2⟩ := h; exact ⟨ds, h1.below hb, h2⟩
theorem RowIs.alloc {w : World} {v : Value} {z : Int} (h : RowIs w v z) (o : Obj) : RowIs (w.alloc o) v z := by
  obtain ⟨ds, h1, h2⟩ := h; exact ⟨ds, h1.alloc o, h2⟩
theorem RowIs.nonneg {w : World} {v : Value} {z : Int} (h : RowIs w v z) : 0 ≤ z := by
  obtain ⟨ds, -, h2, rfl⟩ := h; exact val_nonneg h2.limbs
theorem RowIs.one (w : World) : RowIs (w.alloc (.cells #[.int .i64 1] 3)) (.slice (some ⟨w.heap.size, 0, none⟩) 1 1) 1 := by
  refine ⟨[1], ⟨_, 1, rfl, by simp, by simp [maxLen], .inr ⟨w.heap.size, 0, _, rfl, heap_alloc_new w _, fun i hi => ?_⟩⟩, ⟨Limbs.one (by decide) (by decide), by decide⟩, by decide⟩
  have : i = 0 := by simpa using hi
  subst this
  rfl
theorem RowIs.zero (w : World) : RowIs (w.alloc (.cells #[] 3)) (.slice (some ⟨w.heap.size, 0, none⟩) 0 0) 0 :=
  ⟨[], ⟨_, 0, rfl, by simp, by simp [maxLen], .inl rfl⟩, Canon.nil, rfl⟩
/-- Below 65536^50: far more than any statement comes to. -/
def Mid (z : Int) : Prop := z < pw 50
theorem Mid.len {z : Int} {ds : List Int} (h : Mid z) (hc : Canon ds) (hv : val ds = z) : ds.length ≤ 50 := hc.length_le (by rw [hv]; exact h)
theorem Mid.le {x y : Int} (h : Mid y) (hx : x ≤ y) : Mid x := by unfold Mid at *; omega

/-- A call returned a row that is worth z. -/
def RowsPost (w : World) (z : Int) (e : Ending) (w' : World) : Prop := ∃ v, e = .returned v ∧ RowIs w' v z ∧ Below w.heap.size w w'
theorem plus_row (v u : Value) (x y : Int) (w : World) (hv : RowIs w v x) (hu : RowIs w u y) (mx : Mid x) (my : Mid y) :
    Calls Tryd.prog 39 #[v, u] w (RowsPost w (x + y)) := by
  obtain ⟨a, h1, h2, h3⟩ := hv
  obtain ⟨b, h4, h5, h6⟩ := hu
  refine (plus_any v u a b w h1 h4 h2.limbs h5.limbs (by have := mx.len h2 h3; omega) (by have := my.len h5 h6; omega)).mono ?_
  rintro e w' ⟨v', ds, rfl, g1, g2, g3, g4⟩
  exact ⟨v', rfl, ⟨ds, g1, g2, by rw [g3, h3, h6]⟩, g4⟩
theorem minus_row (v u : Value) (x y : Int) (w : World) (hv : RowIs w v x) (hu : RowIs w u y) (mx : Mid x) (hle : y ≤ x) :
    Calls Tryd.prog 41 #[v, u] w (RowsPost w (x - y)) := by
  obtain ⟨a, h1, h2, h3⟩ := hv
  obtain ⟨b, h4, h5, h6⟩ := hu
  refine (minus_any v u a b w h1 h4 h2.limbs h5.limbs (by have := mx.len h2 h3; omega) (h5.length_mono h2.limbs (by omega)) (by omega)).mono ?_
  rintro e w' ⟨v', ds, rfl, g1, g2, g3, g4⟩
  exact ⟨v', rfl, ⟨ds, g1, g2, by rw [g3, h3, h6]⟩, g4⟩
theorem above_row (v u : Value) (x y : Int) (w : World) (hv : RowIs w v x) (hu : RowIs w u y) (mx : Mid x) (my : Mid y) :
    Calls Tryd.prog 40 #[v, u] w fun e w' => e = .returned (.int .i64 (cmpOf x y)) ∧ w = w' := by
  obtain ⟨a, h1, h2, h3⟩ := hv
  obtain ⟨b, h4, h5, h6⟩ := hu
  refine (above_any v u a b w h1 h4 h2.limbs h5.limbs (by have := mx.len h2 h3; omega) (by have := my.len h5 h6; omega)).mono ?_
  rintro e w' ⟨rfl, rfl⟩
  exact ⟨by rw [h3, h6], rfl⟩

/-! ### Bits of a number in limbs -/
theorem two_pow_16 (m : Nat) : (2 : Int) ^ (16 * m) = pw m := pw_two m
theorem bit_eq {a : List Int} (ha : Limbs a) (j : Nat) : (val a / 2 ^ j) % 2 = (lim a (j / 16) / 2 ^ (j % 16)) % 2 := by
  have hj : (2 : Int) ^ j = pw (j / 16) * 2 ^ (j % 16) := by
    rw [← two_pow_16, ← Int.pow_add]
    congr 1; omega
  have hs : j % 16 < 16 := by omega
  generalize j / 16 = m at *
  generalize j % 16 = s at *
  rw [hj, ← Int.ediv_ediv_of_nonneg (Int.le_of_lt (pw_pos m))]
  have h1 : val a / pw m = val (a.drop m) := by
    rcases Nat.lt_or_ge a.length m with h | h
    · rw [List.drop_of_length_le (by omega), val_nil]
      exact Int.ediv_eq_zero_of_lt (val_nonneg ha) (by have := val_lt ha; have := pw_le (show a.length ≤ m by omega); omega)
    · rw [val_split a m h, Int.add_mul_ediv_left _ _ (by have := pw_pos m; omega)]
      rw [Int.ediv_eq_zero_of_lt (val_take_nonneg ha m) (val_take_lt ha m)]
      omega
  rw [h1, val_drop]
  generalize val (a.drop (m + 1)) = t
  generalize lim a m = d
  have h2 : (65536 : Int) = 2 ^ s * (2 * 2 ^ (15 - s)) := by
    rw [show (2 : Int) * 2 ^ (15 - s) = 2 ^ (16 - s) by rw [show 16 - s = (15 - s) + 1 by omega, Int.pow_succ]; omega, ← Int.pow_add, show s + (16 - s) = 16 by omega]
    rfl
  have h3 : (0 : Int) < 2 ^ s := Int.pow_pos (by decide)
  rw [h2, Int.mul_assoc, Int.add_mul_ediv_left _ _ (by omega), Int.mul_assoc]
  omega
theorem half_step (A : Int) (j : Nat) : A / 2 ^ j = 2 * (A / 2 ^ (j + 1)) + (A / 2 ^ j) % 2 := by
  have : A / 2 ^ (j + 1) = A / 2 ^ j / 2 := by
    rw [Int.pow_succ, Int.ediv_ediv_of_nonneg (Int.le_of_lt (Int.pow_pos (by decide)))]
  rw [this]; omega
#print axioms bit_eq

/-- The quotient, rounded down or up. -/
def divOf (x c : Int) (up : Bool) : Int := if up then -((-x) / c) else x / c
end Go.Proofs.YtjhekggeofalfaaDoor
