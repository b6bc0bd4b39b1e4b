/- Contract of safe.Ratio, from what math/bits.Div64 answers. -/
import Derived.Test.YtjhekggeofalfaaSafe
import Derived.Test.YtjhekggeofalfaaRatio
namespace Go.Proofs.Ytjhekggeofalfaa
open Go.RowKit

theorem neg_div (n : Int) {c : Int} (hc : 0 < c) : (-n) / c = -(n / c) - (if n % c = 0 then 0 else 1) := by
  have e := Int.mul_ediv_add_emod n c
  have r0 := Int.emod_nonneg n (show c ≠ 0 by omega)
  have r1 := Int.emod_lt_of_pos n hc
  have key : ∀ q r : Int, -n = c * q + r → 0 ≤ r → r < c → -n / c = q := fun q r h h0 h1 => by
    rw [h, Int.mul_comm, Int.add_comm, Int.add_mul_ediv_right _ _ (by omega), Int.ediv_eq_zero_of_lt h0 h1]; omega
  by_cases h : n % c = 0
  · rw [if_pos h]
    exact key _ 0 (by rw [Int.sub_zero, Int.mul_neg]; omega) (by omega) (by omega)
  · rw [if_neg h]
    exact key _ (c - n % c) (by rw [Int.mul_sub, Int.mul_neg]; omega) (by omega) (by omega)
theorem ratio_eq {n c p : Int} {ng : Bool} (up : Bool) (hc : 0 < c) (hs : signedOf n ng = p) : divOf p c up = signedOf (n / c + (if n % c = 0 then 0 else if ng = up then 0 else 1)) ng := by
  subst hs
  unfold divOf signedOf
  cases ng <;> cases up <;> simp [neg_div n hc] <;> split <;> omega
theorem signed_big {m : Int} (ng : Bool) (h : 9223372036854775808 < m) : ¬ Fits (signedOf m ng) := by
  unfold Fits signedOf; cases ng <;> simp <;> omega
theorem ratio_big {n c p : Int} {ng : Bool} (up : Bool) (hc : 0 < c) (hs : signedOf n ng = p) (hq : 9223372036854775808 < n / c) : ¬ Fits (divOf p c up) := by
  rw [ratio_eq up hc hs]
  refine signed_big ng ?_
  split
  · omega
  · split <;> omega
theorem ratio_hi {n c : Int} (hc : 0 < c) (h : c ≤ n / 18446744073709551616) : 9223372036854775808 < n / c := by
  have h1 : c * 18446744073709551616 ≤ n := by
    have := Int.mul_le_mul_of_nonneg_right h (show (0 : Int) ≤ 18446744073709551616 by decide)
    have := Int.ediv_mul_le n (show (18446744073709551616 : Int) ≠ 0 by decide)
    omega
  have h2 : 18446744073709551616 ≤ n / c := Int.le_ediv_of_mul_le hc (by omega)
  omega
/-- What Div64 answers. -/
def D64 (hi lo y : Int) : Prop := ∀ w : World, Calls Try.prog 76 #[.int .u64 hi, .int .u64 lo, .int .u64 y] w fun e w' =>
  e = .returned (.tuple #[.int .u64 ((hi * 18446744073709551616 + lo) / y), .int .u64 ((hi * 18446744073709551616 + lo) % y)]) ∧ Below w.heap.size w w'

set_option maxRecDepth 20000 in
set_option maxHeartbeats 2000000 in
theorem safeRatio_of (a b c : Int) (up : Bool) (w : World) (ha : Fits a) (hb : Fits b) (hc : Fits c)
    (hd : 1 ≤ c → ((a * b).natAbs : Int) / 18446744073709551616 < c → D64 (((a * b).natAbs : Int) / 18446744073709551616) (((a * b).natAbs : Int) % 18446744073709551616) c) :
    Calls Try.prog 53 #[.int .i64 a, .int .i64 b, .int .i64 c, .bool up] w fun e w' =>
      e = .returned (.tuple #[.int .i64 (raV a b c up), .int .i64 (raE a b c up)]) ∧ Below w.heap.size w w' := by
  have HA := hid ha
  have HB := hid hb
  have HD := hid hd
  have c1 := hc.lo
  have c2 := hc.hi
  clear ha hb hc hd
  by_cases h : 1 ≤ c
  · rw [show raV a b c up = sat (divOf (a * b) c up) by rw [raV, if_pos h], show raE a b c up = err (divOf (a * b) c up) by rw [raE, if_pos h]]
    have HS := hid (sign_mul a b)
    have HM := hid (natAbs_mul_eq a b)
    have UC := hid (show IntKind.u64.wrap c = c by rw [u64_wrap]; omega)
    have HN : (0 : Int) ≤ ((a * b).natAbs : Int) := by omega
    generalize a * b = p at *
    generalize (p.natAbs : Int) = n at *
    have RE := hid (fun up => ratio_eq up (show 0 < c by omega) HS.out)
    have RB := hid (fun up => ratio_big up (show 0 < c by omega) HS.out)
    have RH := hid (ratio_hi (n := n) (show 0 < c by omega))
    generalize hng : (!(decide (a < 0) == decide (b < 0))) = ng at *
    have NG := hid hng
    clear hng
    go_enter Try.func53, Try.ntmps53
    go_wp2_with fail
    refine (safeSize_any a _ HA.out).mono ?_; rintro e w' ⟨rfl, rfl⟩
    go_wp2_with fail
    refine (safeSize_any b _ HB.out).mono ?_; rintro e w' ⟨rfl, rfl⟩
    go_wp2_with fail
    refine (mul64_any _ _ _ (natAbs_u64 HA.out) (natAbs_u64 HB.out)).mono ?_; rintro e w' ⟨rfl, rfl⟩
    rw [HM.out, NG.out]
    have e := Int.mul_ediv_add_emod n 18446744073709551616
    have e0 := Int.emod_nonneg n (show (18446744073709551616 : Int) ≠ 0 by decide)
    have E := hid (show n / 18446744073709551616 * 18446744073709551616 + n % 18446744073709551616 = n by omega)
    have hi0 : 0 ≤ n / 18446744073709551616 := by omega
    have NQ := hid (Int.ediv_nonneg HN (show 0 ≤ c by omega))
    have NR := hid (Int.emod_nonneg n (show c ≠ 0 by omega))
    clear e e0
    generalize n / 18446744073709551616 = hi at *
    generalize n % 18446744073709551616 = lo at *
    have UC1 := UC.out
    by_cases hh : c ≤ hi
    · have NF := hid (RB.out up (RH.out hh))
      go_wp2_with fail
      go_ret2
      exact ⟨ret2 (sat_no NF.out).symm (err_no NF.out).symm, Below.refl _ _⟩
    · have DD := hid (HD.out h (by omega))
      clear HD
      go_wp2_with fail
      refine (DD.out _).mono ?_
      rw [E.out]
      have RE1 := hid (RE.out up)
      have RB1 := hid (RB.out up)
      have NQ0 := NQ.out
      have NR0 := NR.out
      clear RE RB RH DD
      generalize n / c = q at *
      generalize n % c = r at *
      rintro e w1 ⟨rfl, bel⟩
      have BEL := hid bel
      clear bel
      by_cases hq : 9223372036854775808 < q
      · have NF := hid (RB1.out hq)
        go_wp2_with fail
        go_ret2
        exact ⟨ret2 (sat_no NF.out).symm (err_no NF.out).symm, BEL.out⟩
      · by_cases hr : r = 0
        · subst hr
          have V := hid (show divOf p c up = signedOf q ng by rw [RE1.out, if_pos rfl, Int.add_zero])
          clear RE1 RB1
          go_wp2_with fail
          refine (safeSigned_any _ _ _ ⟨by omega, by omega⟩).mono ?_; rintro e w' ⟨rfl, rfl⟩
          rw [← V.out]
          go_wp2_with fail
          go_ret2
          exact ⟨rfl, BEL.out⟩
        · have r1 : (r != 0) = true := bne_iff_ne.2 hr
          rw [if_neg hr] at RE1
          cases ng <;> cases up
          all_goals
            clear RB1 hr
            go_wp2_with fail
            refine (safeSigned_any _ _ _ ⟨by omega, by omega⟩).mono ?_; rintro e w' ⟨rfl, rfl⟩
            go_wp2_with fail
            go_ret2
            exact ⟨ret2 (by rw [RE1.out]; simp) (by rw [RE1.out]; simp), BEL.out⟩
  · rw [show raV a b c up = 0 by rw [raV, if_neg h], show raE a b c up = 11 by rw [raE, if_neg h]]
    go_enter Try.func53, Try.ntmps53
    go_wp2_with fail
    go_ret2
    exact ⟨rfl, Below.refl _ _⟩
end Go.Proofs.Ytjhekggeofalfaa
