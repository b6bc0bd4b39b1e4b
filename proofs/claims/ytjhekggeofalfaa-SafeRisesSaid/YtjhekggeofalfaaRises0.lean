/- safe.Ratio at every input; what rises. -/
import Derived.Test.YtjhekggeofalfaaAlive01
import Derived.Test.YtjhekggeofalfaaDiv64
namespace Go.Proofs.Ytjhekggeofalfaa
open Go.RowKit

theorem safeRatio_any (a b c : Int) (up : Bool) (w : World) (ha : Fits a) (hb : Fits b) (hc : Fits c) :
    Calls Try.prog 53 #[.int .i64 a, .int .i64 b, .int .i64 c, .bool up] w fun e w' =>
      e = .returned (.tuple #[.int .i64 (raV a b c up), .int .i64 (raE a b c up)]) ∧ Below w.heap.size w w' := by
  refine safeRatio_of a b c up w ha hb hc fun h1 h2 => ?_
  have c2 := hc.hi
  have lo0 := Int.emod_nonneg ((a * b).natAbs : Int) (show (18446744073709551616 : Int) ≠ 0 by decide)
  have lo1 := Int.emod_lt_of_pos ((a * b).natAbs : Int) (show (0 : Int) < 18446744073709551616 by decide)
  have hi0 := Int.ediv_nonneg (show (0 : Int) ≤ ((a * b).natAbs : Int) by omega) (show (0 : Int) ≤ 18446744073709551616 by decide)
  generalize ((a * b).natAbs : Int) / 18446744073709551616 = hi at *
  generalize ((a * b).natAbs : Int) % 18446744073709551616 = lo at *
  rcases Int.lt_or_eq_of_le hi0 with h | h
  · exact div64_big hi lo c ⟨lo0, by omega⟩ (by omega) h2 (by omega)
  · subst h
    exact div64_zero lo c ⟨lo0, by omega⟩ h1 (by omega)
theorem sat_rises {x y : Int} (h : x ≤ y) : err x = 0 → err y = 0 → sat x ≤ sat y := by
  intro h1 h2
  by_cases f : Fits x
  · by_cases g : Fits y
    · rw [sat_yes f, sat_yes g]; exact h
    · rw [err_no g] at h2; cases h2
  · rw [err_no f] at h1; cases h1
theorem div_rises {x y c : Int} (h : x ≤ y) (hc : 0 < c) : divOf x c true ≤ divOf y c true := by
  unfold divOf
  rw [if_pos rfl, if_pos rfl]
  have := Int.ediv_le_ediv hc (show -y ≤ -x by omega)
  omega
theorem ratio_rises {a b c d : Int} (h : a ≤ b) (hc : 0 ≤ c) : raE a c d true = 0 → raE b c d true = 0 → raV a c d true ≤ raV b c d true := by
  unfold raE raV
  by_cases hd : 1 ≤ d
  · rw [if_pos hd, if_pos hd, if_pos hd, if_pos hd]
    exact sat_rises (div_rises (Int.mul_le_mul_of_nonneg_right h hc) (by omega))
  · rw [if_neg hd, if_neg hd]
    intro q; cases q
theorem clamp_rises {a b c d : Int} (h : a ≤ b) : min (max a c) d ≤ min (max b c) d := by omega
end Go.Proofs.Ytjhekggeofalfaa
