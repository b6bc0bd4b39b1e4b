/- Contract of wide.shift. -/
import Derived.Test.YtjhekggeofalfaaDoorWide10
namespace Go.Proofs.YtjhekggeofalfaaDoor
open Go.RowKit

theorem shift_words {hi lo d : Int} (h : U64 hi) (h' : U64 lo) (d0 : 0 ≤ d) (d1 : d ≤ 9) :
    let N := (hi * 18446744073709551616 + lo) * 10 + d
    let c := (lo * 10 % 18446744073709551616 + d) / 18446744073709551616
    let s := hi * 10 % 18446744073709551616 + lo * 10 / 18446744073709551616 + c
    0 ≤ c ∧ c ≤ 1 ∧ (lo * 10 % 18446744073709551616 + d) % 18446744073709551616 = N % 18446744073709551616 ∧ s % 18446744073709551616 = N / 18446744073709551616 % 18446744073709551616 ∧
      (hi * 10 / 18446744073709551616 = 0 ∧ s / 18446744073709551616 = 0 ↔ N < 340282366920938463463374607431768211456) := by
  obtain ⟨h1, h2⟩ := h
  obtain ⟨h3, h4⟩ := h'
  intro N c s
  have hc : 0 ≤ c ∧ c ≤ 1 := by constructor <;> omega
  have e1 : (lo * 10 % 18446744073709551616 + d) % 18446744073709551616 + c * 18446744073709551616 = lo * 10 % 18446744073709551616 + d := by omega
  have e2 : N = (s + hi * 10 / 18446744073709551616 * 18446744073709551616) * 18446744073709551616 + (lo * 10 % 18446744073709551616 + d) % 18446744073709551616 := by omega
  have s0 : 0 ≤ s := by omega
  have o0 : 0 ≤ hi * 10 / 18446744073709551616 := by omega
  have l0 : 0 ≤ (lo * 10 % 18446744073709551616 + d) % 18446744073709551616 := by omega
  have l1 : (lo * 10 % 18446744073709551616 + d) % 18446744073709551616 < 18446744073709551616 := by omega
  generalize (lo * 10 % 18446744073709551616 + d) % 18446744073709551616 = l at *
  generalize hi * 10 / 18446744073709551616 = o at *
  clear_value N s c
  clear e1 h1 h2 h3 h4 d0 d1
  refine ⟨hc.1, hc.2, by omega, by omega, by omega⟩
set_option maxRecDepth 20000 in
set_option maxHeartbeats 1000000 in
theorem shift_any (hi lo d : Int) (w : World) (h : U64 hi) (h' : U64 lo) (d0 : 0 ≤ d) (d1 : d ≤ 9) :
    Calls Tryd.prog 52 #[.int .u64 hi, .int .u64 lo, .int .u64 d] w fun e w' =>
      e = .returned (.tuple #[.int .u64 (((hi * 18446744073709551616 + lo) * 10 + d) / 18446744073709551616 % 18446744073709551616), .int .u64 (((hi * 18446744073709551616 + lo) * 10 + d) % 18446744073709551616), .bool (decide ((hi * 18446744073709551616 + lo) * 10 + d < 340282366920938463463374607431768211456))]) ∧ w = w' := by
  obtain ⟨c0, c1, s1, s2, s3⟩ := shift_words h h' d0 d1
  have U10 : U64 10 := ⟨by decide, by decide⟩
  have M1 := hid (fun W => mul64_any hi 10 W h U10)
  have M2 := hid (fun W => mul64_any lo 10 W h' U10)
  obtain ⟨h1, h2⟩ := h
  obtain ⟨h3, h4⟩ := h'
  have A1 := add64_run (lo * 10 % 18446744073709551616) d 0 (by omega) d0 (by decide) (by decide) w
  have A2 := add64_run (hi * 10 % 18446744073709551616) (lo * 10 / 18446744073709551616) ((lo * 10 % 18446744073709551616 + d) / 18446744073709551616) (by omega) (by omega) c0 c1 w
  rw [Int.add_zero] at A1
  have S1 := hid s1
  have S2 := hid s2
  have S3 := hid s3
  clear s1 s2 s3 U10
  generalize ((hi * 18446744073709551616 + lo) * 10 + d) / 18446744073709551616 % 18446744073709551616 = rh at *
  generalize ((hi * 18446744073709551616 + lo) * 10 + d) % 18446744073709551616 = rl at *
  generalize (hi * 18446744073709551616 + lo) * 10 + d = N at *
  go_enter Tryd.func52, Tryd.ntmps52
  go_wp2_with fail
  refine (M1.out _).mono ?_; rintro e w' ⟨rfl, rfl⟩
  go_wp2_with fail
  refine (M2.out _).mono ?_; rintro e w' ⟨rfl, rfl⟩
  have L := hid (show (lo * 10 + d) % 18446744073709551616 = rl by rw [← S1.out]; omega)
  by_cases o : hi * 10 / 18446744073709551616 = 0
  · have R := hid (show ((hi * 10 % 18446744073709551616 + lo * 10 / 18446744073709551616 + (lo * 10 % 18446744073709551616 + d) / 18446744073709551616) / 18446744073709551616 == 0) = decide (N < 340282366920938463463374607431768211456) from by
      rw [Bool.eq_iff_iff, beq_iff_eq, decide_eq_true_iff, ← S3.out]
      exact ⟨fun t => ⟨o, t⟩, fun t => t.2⟩)
    rw [o]
    clear S3 M1 M2 S1
    go_wp2_with fail
    go_ret3
    exact ⟨by rw [S2.out, L.out, R.out]; rfl, rfl⟩
  · have R := hid (show decide (N < 340282366920938463463374607431768211456) = false from by
      rw [decide_eq_false_iff_not, ← S3.out]
      exact fun t => o t.1)
    clear S3 M1 M2 S1
    have o2 : (hi * 10 / 18446744073709551616 == 0) = false := beq_eq_false_iff_ne.2 o
    go_wp2_with fail
    go_ret3
    exact ⟨by rw [S2.out, L.out, R.out]; rfl, rfl⟩
end Go.Proofs.YtjhekggeofalfaaDoor
