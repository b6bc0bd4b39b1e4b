/- noonmarklaw01.alive returns true. -/
import Derived.Test.YtjhekggeofalfaaSafeS
namespace Go.Proofs.Ytjhekggeofalfaa
open Go.RowKit

theorem safeRatio_small (a b c : Int) (up : Bool) (w : World) (ha : Fits a) (hb : Fits b) (hc : Fits c) (h : ((a * b).natAbs : Int) < 18446744073709551616) :
    Calls Try.prog 53 #[.int .i64 a, .int .i64 b, .int .i64 c, .bool up] w fun e w' =>
      e = .returned (.tuple #[.int .i64 (raV a b c up), .int .i64 (raE a b c up)]) ∧ Below w.heap.size w w' := by
  refine safeRatio_of a b c up w ha hb hc fun h1 _ => ?_
  obtain ⟨c1, c2⟩ := hc
  generalize (a * b).natAbs = n at *
  rw [Int.ediv_eq_zero_of_lt (by omega) h]
  exact div64_zero _ c ⟨Int.emod_nonneg _ (by decide), by have := Int.emod_lt_of_pos (n : Int) (show (0 : Int) < 18446744073709551616 by decide); omega⟩ h1 (by omega)
theorem IsLongs.three (w : World) (a b c : Int) : IsLongs (w.alloc (.cells #[.int .i64 a, .int .i64 b, .int .i64 c] 2)) (.slice (some ⟨w.heap.size, 0, none⟩) 3 3) [a, b, c] := by
  refine ⟨_, 3, rfl, by simp, by simp [maxLen], .inr ⟨w.heap.size, 0, rfl, by simp, fun i hi => ?_⟩⟩
  have hb := heap_alloc_new w (.cells #[.int .i64 a, .int .i64 b, .int .i64 c] 2)
  match i, hi with
  | 0, _ => exact (cell_of_row _ _ _ _ _ _ hb).trans rfl
  | 1, _ => exact (cell_of_row _ _ _ _ _ _ hb).trans rfl
  | 2, _ => exact (cell_of_row _ _ _ _ _ _ hb).trans rfl
  | _ + 3, hi => exact absurd hi (by simp)

set_option maxRecDepth 100000 in
set_option maxHeartbeats 2000000 in
theorem alive01_any (w : World) : Calls Try.prog 45 #[] w fun e w' => e = .returned (.bool true) ∧ Below w.heap.size w w' := by
  go_enter Try.func45, Try.ntmps45
  go_wp2_with fail
  refine (safeAdd_any 4611686018427387904 4611686018427387904 _ ⟨by decide, by decide⟩ ⟨by decide, by decide⟩).mono ?_
  rw [show sat (4611686018427387904 + 4611686018427387904) = 0 by decide, show err (4611686018427387904 + 4611686018427387904) = 12 by decide]
  rintro e w' ⟨rfl, rfl⟩
  go_wp2_with fail
  refine (safeSub_any 3 5 _ ⟨by decide, by decide⟩ ⟨by decide, by decide⟩).mono ?_
  rw [show sat (3 - 5) = -2 by decide, show err (3 - 5) = 0 by decide]
  rintro e w' ⟨rfl, rfl⟩
  go_wp2_with fail
  refine (safeMul_any (-3) 5 _ ⟨by decide, by decide⟩ ⟨by decide, by decide⟩).mono ?_
  rw [show sat (-3 * 5) = -15 by decide, show err (-3 * 5) = 0 by decide]
  rintro e w' ⟨rfl, rfl⟩
  go_wp2_with fail
  refine (safeSum_any _ _ _ (IsLongs.three w 4611686018427387904 4611686018427387904 (-1)) (by intro x hx; simp at hx; rcases hx with rfl | rfl <;> exact ⟨by decide, by decide⟩)).mono ?_
  rw [show sat (sumI [4611686018427387904, 4611686018427387904, -1]) = 9223372036854775807 by decide, show err (sumI [4611686018427387904, 4611686018427387904, -1]) = 0 by decide]
  rintro e w' ⟨rfl, rfl⟩
  have B := hid ((Below.refl w.heap.size w).alloc (Nat.le_refl _) (.cells #[.int .i64 4611686018427387904, .int .i64 4611686018427387904, .int .i64 (-1)] 2))
  go_wp2_with fail
  refine (safeRatio_small 7 3 2 true _ ⟨by decide, by decide⟩ ⟨by decide, by decide⟩ ⟨by decide, by decide⟩ (by decide)).mono ?_
  rw [show raV 7 3 2 true = 11 by decide, show raE 7 3 2 true = 0 by decide]
  rintro e w1 ⟨rfl, x⟩
  replace B := hid (B.out.trans (x.mono B.out.size))
  clear x
  go_wp2_with fail
  refine (safeRatio_small (-7) 3 2 false _ ⟨by decide, by decide⟩ ⟨by decide, by decide⟩ ⟨by decide, by decide⟩ (by decide)).mono ?_
  rw [show raV (-7) 3 2 false = -11 by decide, show raE (-7) 3 2 false = 0 by decide]
  rintro e w2 ⟨rfl, x⟩
  replace B := hid (B.out.trans (x.mono B.out.size))
  clear x
  go_wp2_with fail
  refine (safeRatio_small 1 1 0 false _ ⟨by decide, by decide⟩ ⟨by decide, by decide⟩ ⟨by decide, by decide⟩ (by decide)).mono ?_
  rw [show raV 1 1 0 false = 0 by decide, show raE 1 1 0 false = 11 by decide]
  rintro e w3 ⟨rfl, x⟩
  replace B := hid (B.out.trans (x.mono B.out.size))
  clear x
  go_wp2_with fail
  refine (safeClamp_any 9 1 5 _).mono ?_
  rw [show min (max 9 1) 5 = (5 : Int) by decide]
  rintro e w' ⟨rfl, rfl⟩
  go_wp2_with fail
  refine (safeClamp_any 0 1 5 _).mono ?_
  rw [show min (max 0 1) 5 = (1 : Int) by decide]
  rintro e w' ⟨rfl, rfl⟩
  go_wp2_with fail
  refine (safeClamp_any 3 1 5 _).mono ?_
  rw [show min (max 3 1) 5 = (3 : Int) by decide]
  rintro e w' ⟨rfl, rfl⟩
  go_wp2_with fail
  go_ret
  exact ⟨rfl, B.out⟩
end Go.Proofs.Ytjhekggeofalfaa
