/- Plain laws of bytes: their order is the numbers'; sixteen bytes are a number's. -/
import Derived.Test.YtjhekggeofalfaaDoorBackP
namespace Go.Proofs.YtjhekggeofalfaaDoor
open Go.RowKit

/-- Which of two rows of bytes is the greater, as far as place k. -/
def lexTo (xs ys : List Int) : Nat → Int
  | 0 => 0
  | k + 1 => if lexTo xs ys k ≠ 0 then lexTo xs ys k else if lim ys k < lim xs k then 1 else if lim xs k < lim ys k then -1 else 0
theorem lexTo_stay {xs ys : List Int} {k : Nat} (h : lexTo xs ys k ≠ 0) : ∀ n, lexTo xs ys (k + n) = lexTo xs ys k := by
  intro n
  induction n with
  | zero => rfl
  | succ n ih =>
    show (if lexTo xs ys (k + n) ≠ 0 then lexTo xs ys (k + n) else _) = _
    rw [if_pos (by rw [ih]; exact h), ih]
theorem cmp_step {p q u v : Int} (u0 : 0 ≤ u) (u1 : u < 256) (v0 : 0 ≤ v) (v1 : v < 256) : cmpOf (p * 256 + u) (q * 256 + v) = if cmpOf p q ≠ 0 then cmpOf p q else if v < u then 1 else if u < v then -1 else 0 := by
  rcases Int.lt_trichotomy p q with h | h | h
  · rw [cmpOf_lt h, cmpOf_lt (show p * 256 + u < q * 256 + v by omega)]; rfl
  · subst h
    rw [cmpOf_eq (x := p) (y := p) rfl]
    rcases Int.lt_trichotomy u v with g | g | g
    · rw [cmpOf_lt (by omega), if_neg (by decide), if_neg (by omega), if_pos g]
    · subst g
      rw [cmpOf_eq rfl, if_neg (by decide), if_neg (by omega), if_neg (by omega)]
    · rw [cmpOf_gt (by omega), if_neg (by decide), if_pos g]
  · rw [cmpOf_gt h, cmpOf_gt (show q * 256 + v < p * 256 + u by omega)]; rfl
theorem lexTo_cmp {xs ys : List Int} (hx : Bytes8 xs) (hy : Bytes8 ys) : ∀ k, k ≤ xs.length → k ≤ ys.length → lexTo xs ys k = cmpOf (bval (xs.take k)) (bval (ys.take k)) := by
  intro k
  induction k with
  | zero => intro _ _; simp [lexTo, bval, cmpOf]
  | succ k ih =>
    intro h1 h2
    obtain ⟨a0, a1⟩ := hx (lim xs k) (by rw [getD_in _ (by omega : k < xs.length)]; exact List.getElem_mem _)
    obtain ⟨b0, b1⟩ := hy (lim ys k) (by rw [getD_in _ (by omega : k < ys.length)]; exact List.getElem_mem _)
    rw [bval_take xs (by omega), bval_take ys (by omega), cmp_step a0 a1 b0 b1, ← ih (by omega) (by omega)]
    rfl
theorem bval_all (z : Int) : bval ((wlist z 8).take 16) = z / 18446744073709551616 % 18446744073709551616 * 18446744073709551616 + z % 18446744073709551616 := by
  have h1 := wbyte_top z
  have h2 := wbyte_low z
  rw [List.take_of_length_le (by rw [wlist_length]; omega)]
  rw [wlist_eq] at *
  have e1 : bval [wbyte z 0, wbyte z 1, wbyte z 2, wbyte z 3, wbyte z 4, wbyte z 5, wbyte z 6, wbyte z 7] = z / 18446744073709551616 % 18446744073709551616 := h1
  have e2 : (((((((((0 * 256 + wbyte z 8) * 256 + wbyte z 9) * 256 + wbyte z 10) * 256 + wbyte z 11) * 256 + wbyte z 12) * 256 + wbyte z 13) * 256 + wbyte z 14) * 256 + wbyte z 15)) = z % 18446744073709551616 := h2
  show (((((((bval [wbyte z 0, wbyte z 1, wbyte z 2, wbyte z 3, wbyte z 4, wbyte z 5, wbyte z 6, wbyte z 7] * 256 + wbyte z 8) * 256 + wbyte z 9) * 256 + wbyte z 10) * 256 + wbyte z 11) * 256 + wbyte z 12) * 256 + wbyte z 13) * 256 + wbyte z 14) * 256 + wbyte z 15 = _
  rw [e1, ← e2]
  generalize z / 18446744073709551616 % 18446744073709551616 = H
  omega
theorem bytes_order {a b : Int} (ha : Fits2 a) (hb : Fits2 b) (h : a / 18446744073709551616 < 0 ↔ b / 18446744073709551616 < 0) : lexTo (wlist a 8) (wlist b 8) 16 = cmpOf a b := by
  rw [lexTo_cmp (wlist_bytes a) (wlist_bytes b) 16 (by rw [wlist_length]; exact Nat.le_refl _) (by rw [wlist_length]; exact Nat.le_refl _), bval_all, bval_all]
  obtain ⟨a1, a2⟩ := ha
  obtain ⟨b1, b2⟩ := hb
  rcases Int.lt_trichotomy a b with g | g | g
  · rw [cmpOf_lt g, cmpOf_lt (by omega)]
  · subst g; rw [cmpOf_eq rfl, cmpOf_eq rfl]
  · rw [cmpOf_gt g, cmpOf_gt (by omega)]
theorem wbyte_sign {a : Int} (ha : Fits2 a) : 127 < wbyte a 0 ↔ a / 18446744073709551616 < 0 := by
  obtain ⟨a1, a2⟩ := ha
  unfold wbyte
  simp only [Nat.reduceSub, Int.reducePow]
  omega
theorem eight_back {x0 x1 x2 x3 x4 x5 x6 x7 : Int} (h0 : 0 ≤ x0 ∧ x0 < 256) (h1 : 0 ≤ x1 ∧ x1 < 256) (h2 : 0 ≤ x2 ∧ x2 < 256) (h3 : 0 ≤ x3 ∧ x3 < 256) (h4 : 0 ≤ x4 ∧ x4 < 256) (h5 : 0 ≤ x5 ∧ x5 < 256) (h6 : 0 ≤ x6 ∧ x6 < 256) (h7 : 0 ≤ x7 ∧ x7 < 256) {U : Int}
    (hU : U = (((((((x0 * 256 + x1) * 256 + x2) * 256 + x3) * 256 + x4) * 256 + x5) * 256 + x6) * 256 + x7)) :
    U / 72057594037927936 % 256 = x0 ∧ U / 281474976710656 % 256 = x1 ∧ U / 1099511627776 % 256 = x2 ∧ U / 4294967296 % 256 = x3 ∧ U / 16777216 % 256 = x4 ∧ U / 65536 % 256 = x5 ∧ U / 256 % 256 = x6 ∧ U % 256 = x7 ∧ 0 ≤ U ∧ U < 18446744073709551616 := by
  subst hU
  refine ⟨?_, ?_, ?_, ?_, ?_, ?_, ?_, ?_, ?_, ?_⟩ <;> omega
end Go.Proofs.YtjhekggeofalfaaDoor
