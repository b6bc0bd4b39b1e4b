/- Division of two words by one, half a word at a time: plain numbers. -/
import Derived.Test.YtjhekggeofalfaaDoorPlain
namespace Go.Proofs.YtjhekggeofalfaaDoor

/-- The guess is too great just if its test says so. -/
theorem dig_test {q r h l u d : Int} (hq : q * h + r = u) : q * l > 4294967296 * r + d ↔ u * 4294967296 + d < q * (h * 4294967296 + l) := by
  have e : q * (h * 4294967296 + l) = (q * h) * 4294967296 + q * l := by rw [Int.mul_add, Int.mul_assoc]
  rw [e]
  generalize q * h = P at *
  generalize q * l = T at *
  omega
theorem dig_gt {q N Y : Int} (hY : 0 < Y) : N < q * Y ↔ N / Y < q := by
  rw [Int.ediv_lt_iff_lt_mul hY]
/-- A guess that is not too great, and not too small, is the quotient. -/
theorem dig_done {q N Y : Int} (hY : 0 < Y) (h1 : N / Y ≤ q) (h2 : ¬ N < q * Y) : q = N / Y := by
  have h3 : ¬ N / Y < q := fun h => h2 ((dig_gt (q := q) (N := N) hY).2 h)
  omega
/-- Where the rest is a half word or more the guess is right. -/
theorem dig_big {q r h l u d : Int} (hq : q * h + r = u) (h0 : 2147483648 ≤ h) (hl : 0 ≤ l) (hl2 : l < 4294967296) (hu : u < h * 4294967296 + l) (hr : 4294967296 ≤ r) (hq0 : 0 ≤ q) (hd : 0 ≤ d) :
    q < 4294967296 ∧ ¬ u * 4294967296 + d < q * (h * 4294967296 + l) := by
  have hq1 : q < 4294967296 := by
    apply Int.not_le.1
    intro h1
    have := Int.mul_le_mul_of_nonneg_right h1 (show 0 ≤ h by omega)
    omega
  refine ⟨hq1, fun h2 => ?_⟩
  have h3 := (dig_test (d := d) (l := l) hq).2 h2
  have h4 : q * l ≤ 4294967296 * 4294967296 := by
    have a1 := Int.mul_le_mul_of_nonneg_left (show l ≤ 4294967296 by omega) hq0
    omega
  omega
/-- The first guess. -/
theorem dig_start {h l u d : Int} (h0 : 2147483648 ≤ h) (hl : 0 ≤ l) (hu0 : 0 ≤ u) (hd0 : 0 ≤ d) (hd : d < 4294967296) :
    u / h * h + u % h = u ∧ 0 ≤ u % h ∧ u % h < h ∧ 0 ≤ u / h ∧ (u * 4294967296 + d) / (h * 4294967296 + l) ≤ u / h := by
  have e := Int.mul_ediv_add_emod u h
  have r0 := Int.emod_nonneg u (show h ≠ 0 by omega)
  have r1 := Int.emod_lt_of_pos u (show 0 < h by omega)
  have q0 := Int.ediv_nonneg hu0 (show 0 ≤ h by omega)
  rw [Int.mul_comm] at e
  refine ⟨e, r0, r1, q0, ?_⟩
  have k : (u * 4294967296 + d) / (h * 4294967296 + l) < u / h + 1 := by
    rw [Int.ediv_lt_iff_lt_mul (by omega)]
    have e2 : (u / h + 1) * (h * 4294967296 + l) = (u / h * h) * 4294967296 + h * 4294967296 + (u / h) * l + l := by
      rw [Int.add_mul, Int.mul_add, Int.mul_assoc, Int.one_mul]; omega
    have e3 := Int.mul_nonneg q0 hl
    rw [e2]
    generalize u / h * h = P at *
    generalize u / h * l = T at *
    omega
  omega
/-- The step of a guess that is too great. -/
theorem dig_step {q r h u : Int} (hq : q * h + r = u) : (q - 1) * h + (r + h) = u := by
  rw [Int.sub_mul, Int.one_mul]; omega
/-- The quotient's half word is one. -/
theorem dig_lt {h l u d : Int} (hu0 : 0 ≤ u) (hu : u < h * 4294967296 + l) (hd0 : 0 ≤ d) (hd : d < 4294967296) :
    0 ≤ (u * 4294967296 + d) / (h * 4294967296 + l) ∧ (u * 4294967296 + d) / (h * 4294967296 + l) < 4294967296 := by
  refine ⟨Int.ediv_nonneg (by omega) (by omega), ?_⟩
  rw [Int.ediv_lt_iff_lt_mul (by omega)]
  have := Int.mul_le_mul_of_nonneg_right (show u + 1 ≤ h * 4294967296 + l by omega) (show (0 : Int) ≤ 4294967296 by decide)
  omega
/-- The rest, told in words that wrap. -/
theorem dig_rest {N Y q : Int} (hY : 0 < Y) (hY2 : Y ≤ 18446744073709551616) (hq : q = N / Y) : (N % 18446744073709551616 - (q * Y) % 18446744073709551616) % 18446744073709551616 = N % Y := by
  subst hq
  have e := Int.mul_ediv_add_emod N Y
  have r0 := Int.emod_nonneg N (show Y ≠ 0 by omega)
  have r1 := Int.emod_lt_of_pos N hY
  rw [Int.mul_comm] at e
  generalize N / Y * Y = P at *
  omega
/-- Two half words make the word. -/
theorem dig_two {u d1 d0 Y : Int} (hY : 0 < Y) :
    ((u * 4294967296 + d1) * 4294967296 + d0) / Y = (u * 4294967296 + d1) / Y * 4294967296 + ((u * 4294967296 + d1) % Y * 4294967296 + d0) / Y ∧
      ((u * 4294967296 + d1) * 4294967296 + d0) % Y = ((u * 4294967296 + d1) % Y * 4294967296 + d0) % Y := by
  have e := Int.mul_ediv_add_emod (u * 4294967296 + d1) Y
  generalize u * 4294967296 + d1 = N at *
  have k : N * 4294967296 + d0 = (N % Y * 4294967296 + d0) + Y * (N / Y * 4294967296) := by
    conv => lhs; rw [← e]
    rw [Int.add_mul, Int.mul_assoc]; omega
  constructor
  · rw [k, Int.add_mul_ediv_left _ _ (by omega)]; omega
  · rw [k, Int.add_mul_emod_self_left]
end Go.Proofs.YtjhekggeofalfaaDoor
