/- Contracts of math/bits.Sub64, wide.Of, size, negate, signed. -/
import Derived.Test.YtjhekggeofalfaaDoorBitsW
import Derived.Shelf.Spec.BitsCarry
namespace Go.Proofs.YtjhekggeofalfaaDoor
open Go.RowKit

theorem sub64_run (x y b : Int) (hx : 0 ≤ x) (hy : 0 ≤ y) (hy1 : y ≤ 18446744073709551615) (hb0 : 0 ≤ b) (hb : b ≤ 1) (w : World) :
    (callFunc 36 #[.int .u64 x, .int .u64 y, .int .u64 b]).run Tryd.prog w =
      .ok (.value (.tuple #[.int .u64 ((x - y - b) % 18446744073709551616), .int .u64 (if x < y + b then 1 else 0)])) w := by
  obtain ⟨X, rfl⟩ := Int.eq_ofNat_of_zero_le hx
  obtain ⟨Y, rfl⟩ := Int.eq_ofNat_of_zero_le hy
  obtain ⟨B, rfl⟩ := Int.eq_ofNat_of_zero_le hb0
  rw [run_callFunc_extern Tryd.func36 (by kernel_rfl) (by kernel_rfl) (by kernel_rfl) (e := sub64Entry) (by kernel_rfl), run_sub64 X Y B (by omega)]
  have e1 : (((X + 18446744073709551616 - Y - B) % 18446744073709551616 : Nat) : Int) = ((X : Int) - Y - B) % 18446744073709551616 := by omega
  have e2 : ((if X < Y + B then 1 else 0 : Nat) : Int) = if (X : Int) < (Y : Int) + B then 1 else 0 := by split <;> split <;> omega
  rw [← e1, ← e2]
  rfl

/-- The wide number of an integer: its two words. -/
def wideV (z : Int) : Value := .agg #[.int .i64 (z / 18446744073709551616), .int .u64 (z % 18446744073709551616)]
def Fits2 (z : Int) : Prop := -170141183460469231731687303715884105728 ≤ z ∧ z ≤ 170141183460469231731687303715884105727

set_option maxRecDepth 20000 in
theorem wideSize_any (v : Int) (w : World) (h : Fits v) :
    Calls Tryd.prog 45 #[.int .i64 v] w fun e w' => e = .returned (.int .u64 v.natAbs) ∧ w = w' := by
  obtain ⟨h1, h2⟩ := h
  by_cases hv : v < 0
  · go_enter Tryd.func45, Tryd.ntmps45
    go_wp2
    go_ret
    refine ⟨ret1 ?_, rfl⟩
    simp only [u64_wrap]
    omega
  · go_enter Tryd.func45, Tryd.ntmps45
    go_wp2
    go_ret
    refine ⟨ret1 ?_, rfl⟩
    omega
theorem wideV_of {z hi lo : Int} (h1 : hi = z / 18446744073709551616) (h2 : lo = z % 18446744073709551616) : Value.agg #[.int .i64 hi, .int .u64 lo] = wideV z := by rw [h1, h2]; rfl
set_option maxRecDepth 20000 in
theorem wideOf_any (v : Int) (w : World) (h : Fits v) :
    Calls Tryd.prog 21 #[.int .i64 v] w fun e w' => e = .returned (wideV v) ∧ Below w.heap.size w w' := by
  obtain ⟨h1, h2⟩ := h
  go_enter Tryd.func21, Tryd.ntmps21
  go_wp2
  exact bodyPost_ret (v := .agg #[.int .i64 (v / 9223372036854775808), .int .u64 (IntKind.u64.wrap v)]) (by simp [results, Tryd.results21, go_sem]) rfl
    ⟨congrArg Ending.returned (wideV_of (by omega) (u64_wrap v)), (Below.refl _ _).alloc (Nat.le_refl _) _⟩
set_option maxRecDepth 20000 in
theorem negate_any (hi lo : Int) (w : World) (h : U64 hi) (h' : U64 lo) :
    Calls Tryd.prog 47 #[.int .u64 hi, .int .u64 lo] w fun e w' =>
      e = .returned (.tuple #[.int .u64 ((0 - hi - (if 0 < lo then 1 else 0)) % 18446744073709551616), .int .u64 ((0 - lo) % 18446744073709551616)]) ∧ w = w' := by
  obtain ⟨h1, h2⟩ := h
  obtain ⟨h3, h4⟩ := h'
  have r1 := sub64_run 0 lo 0 (by decide) h3 h4 (by decide) (by decide) w
  have r2 := sub64_run 0 hi (if 0 < lo then 1 else 0) (by decide) h1 h2 (by split <;> decide) (by split <;> decide) w
  rw [Int.add_zero, Int.sub_zero] at r1
  generalize (if 0 < lo then (1 : Int) else 0) = b at *
  generalize (if 0 < hi + b then (1 : Int) else 0) = c at *
  go_enter Tryd.func47, Tryd.ntmps47
  go_wp2
  go_ret2
  exact ⟨ret2 (by omega) (by omega), rfl⟩
end Go.Proofs.YtjhekggeofalfaaDoor
