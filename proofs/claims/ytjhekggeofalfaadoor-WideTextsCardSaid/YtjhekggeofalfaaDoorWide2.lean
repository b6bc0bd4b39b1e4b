/- Contracts of wide.signed, Times, Long. -/
import Derived.Test.YtjhekggeofalfaaDoorWide1
namespace Go.Proofs.YtjhekggeofalfaaDoor
open Go.RowKit

/-- The words of a number of this size and sign. -/
theorem negate_words {hi lo : Int} (h : U64 hi) (h' : U64 lo) (hb : hi * 18446744073709551616 + lo ≤ 170141183460469231731687303715884105728) :
    wrap64 ((0 - hi - (if 0 < lo then 1 else 0)) % 18446744073709551616) = (-(hi * 18446744073709551616 + lo)) / 18446744073709551616 ∧
      (0 - lo) % 18446744073709551616 = (-(hi * 18446744073709551616 + lo)) % 18446744073709551616 := by
  obtain ⟨h1, h2⟩ := h
  obtain ⟨h3, h4⟩ := h'
  unfold wrap64
  split <;> omega
set_option maxRecDepth 20000 in
theorem signed_any (hi lo : Int) (neg : Bool) (w : World) (h : U64 hi) (h' : U64 lo) (hb : hi * 18446744073709551616 + lo ≤ (if neg then 170141183460469231731687303715884105728 else 170141183460469231731687303715884105727)) :
    Calls Tryd.prog 46 #[.int .u64 hi, .int .u64 lo, .bool neg] w fun e w' =>
      e = .returned (wideV (if neg then -(hi * 18446744073709551616 + lo) else hi * 18446744073709551616 + lo)) ∧ Below w.heap.size w w' := by
  cases neg with
  | true =>
    obtain ⟨n1, n2⟩ := negate_words h h' (by simpa using hb)
    rw [if_pos rfl]
    have N1 := hid n1
    have N2 := hid n2
    have H := hid h
    have H' := hid h'
    clear n1 n2 hb h h'
    go_enter Tryd.func46, Tryd.ntmps46
    go_wp2_with fail
    refine (negate_any hi lo _ H.out H'.out).mono ?_
    generalize (0 - hi - (if 0 < lo then 1 else 0)) % 18446744073709551616 = p at *
    generalize (0 - lo) % 18446744073709551616 = q at *
    rintro e w' ⟨rfl, rfl⟩
    go_wp2_with fail
    exact bodyPost_ret (v := .agg #[.int .i64 (wrap64 p), .int .u64 q]) (by simp [results, Tryd.results46, go_sem]) rfl ⟨congrArg Ending.returned (wideV_of N1.out N2.out), (Below.refl _ _).alloc (Nat.le_refl _) _⟩
  | false =>
    rw [if_neg (by decide)]
    rw [if_neg (by decide)] at hb
    obtain ⟨h1, h2⟩ := h
    obtain ⟨h3, h4⟩ := h'
    go_enter Tryd.func46, Tryd.ntmps46
    go_wp2
    exact bodyPost_ret (v := .agg #[.int .i64 hi, .int .u64 lo]) (by simp [results, Tryd.results46, go_sem]) rfl ⟨congrArg Ending.returned (wideV_of (by omega) (by omega)), (Below.refl _ _).alloc (Nat.le_refl _) _⟩
/-- A wide number that is a long. -/
theorem long_words {z : Int} (h : Fits2 z) : (z / 18446744073709551616 = wrap64 (z % 18446744073709551616) / 9223372036854775808 ∧ Fits z ∧ wrap64 (z % 18446744073709551616) = z) ∨
    (z / 18446744073709551616 ≠ wrap64 (z % 18446744073709551616) / 9223372036854775808 ∧ ¬ Fits z) := by
  obtain ⟨h1, h2⟩ := h
  unfold wrap64 Fits
  omega
set_option maxRecDepth 20000 in
theorem wideLong_any (z : Int) (w : World) (h : Fits2 z) :
    Calls Tryd.prog 11 #[wideV z] w fun e w' => e = .returned (.tuple #[.int .i64 (sat z), .bool (decide (Fits z))]) ∧ Below w.heap.size w w' := by
  unfold wideV
  rcases long_words h with ⟨e1, e2, e3⟩ | ⟨e1, e2⟩
  · rw [sat_yes e2, decide_eq_true e2]
    have q0 : (z / 18446744073709551616 != wrap64 (z % 18446744073709551616) / 9223372036854775808) = false := by rw [bne, beq_iff_eq.2 e1]; rfl
    have E3 := hid e3
    clear e1 e2 e3
    generalize z / 18446744073709551616 = hi at *
    have lo0 : 0 ≤ z % 18446744073709551616 := Int.emod_nonneg z (by decide)
    generalize z % 18446744073709551616 = lo at *
    go_enter Tryd.func11, Tryd.ntmps11
    go_wp2
    go_ret2
    exact ⟨by rw [← E3.out]; rfl, (Below.refl _ _).alloc (Nat.le_refl _) _⟩
  · rw [sat_no e2, decide_eq_false e2]
    have q0 : (z / 18446744073709551616 != wrap64 (z % 18446744073709551616) / 9223372036854775808) = true := bne_iff_ne.2 e1
    clear e1 e2
    generalize z / 18446744073709551616 = hi at *
    have lo0 : 0 ≤ z % 18446744073709551616 := Int.emod_nonneg z (by decide)
    generalize z % 18446744073709551616 = lo at *
    go_enter Tryd.func11, Tryd.ntmps11
    go_wp2
    go_ret2
    exact ⟨rfl, (Below.refl _ _).alloc (Nat.le_refl _) _⟩
end Go.Proofs.YtjhekggeofalfaaDoor
