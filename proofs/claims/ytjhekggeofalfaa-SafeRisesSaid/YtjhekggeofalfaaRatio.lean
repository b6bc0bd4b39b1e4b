/- Contract of noonmarkref01.Ratio. -/
import Derived.Test.YtjhekggeofalfaaMul
import Derived.Test.YtjhekggeofalfaaDiv2
namespace Go.Proofs.Ytjhekggeofalfaa
open Go.RowKit

theorem Small.mul {x y : Int} (hx : Fits x) (hy : Fits y) : Small (x * y) := by
  obtain ⟨h1, h2⟩ := hx; obtain ⟨h3, h4⟩ := hy
  apply small_of
  rw [Int.natAbs_mul]
  have := Nat.mul_le_mul (show x.natAbs ≤ 9223372036854775808 by omega) (show y.natAbs ≤ 9223372036854775808 by omega)
  have e : ((x.natAbs * y.natAbs : Nat) : Int) ≤ ((9223372036854775808 * 9223372036854775808 : Nat) : Int) := Int.ofNat_le.2 this
  refine Int.lt_of_le_of_lt e (by decide)
theorem ediv_abs (x : Int) {c : Int} (h : 1 ≤ c) : (x / c).natAbs ≤ x.natAbs := by
  rcases Int.le_total 0 x with hx | hx
  · have := Int.ediv_le_self c hx
    have := Int.ediv_nonneg hx (show 0 ≤ c by omega)
    omega
  · have h1 : x ≤ x / c := Int.le_ediv_of_mul_le (by omega) (by
      have : x * c ≤ x * 1 := Int.mul_le_mul_of_nonpos_left hx h
      omega)
    have h2 : x / c ≤ 0 := by
      by_cases h0 : x = 0
      · subst h0; simp
      · have := Int.ediv_neg_of_neg_of_pos (a := x) (b := c) (by omega) (by omega); omega
    omega
theorem divOf_abs (x : Int) {c : Int} (h : 1 ≤ c) (up : Bool) : (divOf x c up).natAbs ≤ x.natAbs := by
  unfold divOf
  cases up
  · exact ediv_abs x h
  · have := ediv_abs (-x) h
    rw [if_pos rfl, Int.natAbs_neg]
    omega
theorem Small.divOf {x c : Int} (hx : Small x) (h : 1 ≤ c) (up : Bool) : Small (divOf x c up) := by
  have := divOf_abs x h up
  unfold Small at *
  omega
def raV (a b c : Int) (up : Bool) : Int := if 1 ≤ c then sat (divOf (a * b) c up) else 0
def raE (a b c : Int) (up : Bool) : Int := if 1 ≤ c then err (divOf (a * b) c up) else 11

set_option maxRecDepth 20000 in
set_option maxHeartbeats 1000000 in
theorem ref01Ratio_any (a b c : Int) (up : Bool) (w : World) (ha : Fits a) (hb : Fits b) (hc : Fits c) :
    Calls Try.prog 69 #[.int .i64 a, .int .i64 b, .int .i64 c, .bool up] w fun e w' => e = .returned (.tuple #[.int .i64 (raV a b c up), .int .i64 (raE a b c up)]) ∧ Below w.heap.size w w' := by
  have HA := hid ha
  have HB := hid hb
  have HC := hid hc
  clear ha hb hc
  by_cases h : 1 ≤ c
  · have SM := hid (Small.mul HA.out HB.out)
    have SD := hid (SM.out.divOf h up)
    have V := hid (show raV a b c up = sat (divOf (a * b) c up) by rw [raV, if_pos h])
    have E := hid (show raE a b c up = err (divOf (a * b) c up) by rw [raE, if_pos h])
    go_enter Try.func69, Try.ntmps69
    go_wp2_with fail
    refine (of_any a _ HA.out).mono ?_
    rintro e w1 ⟨v1, rfl, n1, b1⟩
    have N1 := hid n1
    have B := hid b1
    clear n1 b1
    go_wp2_with fail
    refine (of_any b _ HB.out).mono ?_
    rintro e w2 ⟨v2, rfl, n2, b2⟩
    have N2 := hid n2
    replace N1 := hid (N1.out.below b2)
    replace B := hid (B.out.trans (b2.mono B.out.size))
    clear n2 b2
    go_wp2_with fail
    refine (mul_any _ _ a b _ N1.out N2.out HA.out.small HB.out.small).mono ?_
    rintro e w3 ⟨v3, rfl, n3, b3⟩
    have N3 := hid n3
    replace B := hid (B.out.trans (b3.mono B.out.size))
    clear n3 b3 N1 N2
    go_wp2_with fail
    refine (of_any c _ HC.out).mono ?_
    rintro e w4 ⟨v4, rfl, n4, b4⟩
    have N4 := hid n4
    replace N3 := hid (N3.out.below b4)
    replace B := hid (B.out.trans (b4.mono B.out.size))
    clear n4 b4
    go_wp2_with fail
    refine (div_any _ _ (a * b) c up _ N3.out N4.out SM.out HC.out.small (by omega)).mono ?_
    rintro e w5 ⟨v5, rfl, n5, b5⟩
    have N5 := hid n5
    replace B := hid (B.out.trans (b5.mono B.out.size))
    clear n5 b5 N3 N4
    go_wp2_with fail
    refine (told_any _ _ _ N5.out SD.out).mono ?_
    rintro e w6 ⟨rfl, b6⟩
    replace B := hid (B.out.trans (b6.mono B.out.size))
    clear b6
    go_wp2_with fail
    go_ret2
    exact ⟨ret2 V.out.symm E.out.symm, B.out⟩
  · have V := hid (show raV a b c up = 0 by rw [raV, if_neg h])
    have E := hid (show raE a b c up = 11 by rw [raE, if_neg h])
    go_enter Try.func69, Try.ntmps69
    go_wp2_with fail
    go_ret2
    exact ⟨ret2 V.out.symm E.out.symm, Below.refl _ _⟩
end Go.Proofs.Ytjhekggeofalfaa
