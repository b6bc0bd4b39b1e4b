/- noonmarklaw03.alive returns true. -/
import Derived.Test.YtjhekggeofalfaaMeet
namespace Go.Proofs.Ytjhekggeofalfaa
open Go.RowKit

set_option maxRecDepth 100000 in
set_option maxHeartbeats 2000000 in
theorem alive03_any (w : World) : Calls Try.prog 14 #[] w fun e w' => e = .returned (.bool true) ∧ Below w.heap.size w w' := by
  have B0 := hid (Blks.nil w)
  go_enter Try.func14, Try.ntmps14
  go_wp2_with fail
  refine (gapNew_any 1 5 _).mono ?_
  rw [show newLo 1 5 = 1 by decide, show newHi 1 5 = 5 by decide, show decide ((1 : Int) ≤ 5) = true by decide]
  rintro e w1 ⟨rfl, b1⟩
  have B1 := hid (B0.out.below b1)
  clear b1
  go_wp2_with fail
  refine (gapNew_any 2 1 _).mono ?_
  rw [show newLo 2 1 = 0 by decide, show newHi 2 1 = 0 by decide, show decide ((2 : Int) ≤ 1) = false by decide]
  rintro e w2 ⟨rfl, b2⟩
  have B2 := hid ((B1.out.add _).below b2)
  clear b2
  obtain ⟨c0, c1⟩ := (B2.out.add (.cells #[.int .i64 0, .int .i64 0] 23)).c2 mem1
  go_wp2_with fail
  refine (gapMeet_any _ _ _ (IsGaps.two' w2 (.cells #[.int .i64 0, .int .i64 0] 23) 1 5 4 9)).mono ?_
  rw [show mtLo [(1, 5), (4, 9)] = 4 by decide, show mtHi [(1, 5), (4, 9)] = 5 by decide, show mtErr [(1, 5), (4, 9)] = 0 by decide]
  rintro e w3 ⟨rfl, b3⟩
  have B3 := hid (((B2.out.add _).keep _).below b3)
  clear b3 c0 c1
  obtain ⟨c0, c1⟩ := (B3.out.add (.cells #[.int .i64 4, .int .i64 5] 23)).c2 mem2
  go_wp2_with fail
  refine (gapHull_any _ _ _ (IsGaps.two' w3 (.cells #[.int .i64 4, .int .i64 5] 23) 1 5 7 9)).mono ?_
  rw [show huLo [(1, 5), (7, 9)] = 1 by decide, show huHi [(1, 5), (7, 9)] = 9 by decide, show huErr [(1, 5), (7, 9)] = 0 by decide]
  rintro e w4 ⟨rfl, b4⟩
  have B4 := hid (((B3.out.add _).keep _).below b4)
  clear b4 c0 c1
  obtain ⟨c0, c1⟩ := (B4.out.add (.cells #[.int .i64 1, .int .i64 9] 23)).c2 mem3
  go_wp2_with fail
  refine (gapMeet_any _ _ _ (IsGaps.two' w4 (.cells #[.int .i64 1, .int .i64 9] 23) 1 5 6 9)).mono ?_
  rw [show mtLo [(1, 5), (6, 9)] = 0 by decide, show mtHi [(1, 5), (6, 9)] = 0 by decide, show mtErr [(1, 5), (6, 9)] = 13 by decide]
  rintro e w5 ⟨rfl, b5⟩
  have B5 := hid (((B4.out.add _).keep _).below b5)
  clear b5 c0 c1
  obtain ⟨c0, c1⟩ := (B5.out.add (.cells #[.int .i64 0, .int .i64 0] 23)).c2 mem4
  go_wp2_with fail
  refine (gapShift_any 1 5 (-3) _ (by decide) (by decide) (by decide)).mono ?_
  rw [show shLo 1 5 (-3) = -2 by decide, show shHi 1 5 (-3) = 2 by decide, show shErr 1 5 (-3) = 0 by decide]
  rintro e w6 ⟨rfl, b6⟩
  have B6 := hid ((B5.out.add _).below b6)
  clear b6 c0 c1
  obtain ⟨c0, c1⟩ := (B6.out.add (.cells #[.int .i64 (-2), .int .i64 2] 23)).c2 mem5
  go_wp2_with fail
  refine (gapGrow_any 1 5 1 2 _ (by decide) (by decide) (by decide) (by decide)).mono ?_
  rw [show grLo 1 5 1 2 = 0 by decide, show grHi 1 5 1 2 = 7 by decide, show grErr 1 5 1 2 = 0 by decide]
  rintro e w7 ⟨rfl, b7⟩
  have B7 := hid ((B6.out.add _).below b7)
  clear b7 c0 c1
  obtain ⟨c0, c1⟩ := (B7.out.add (.cells #[.int .i64 0, .int .i64 7] 23)).c2 mem6
  go_wp2_with fail
  refine (gapRight_any 1 5 _).mono ?_
  rw [show decide ((1 : Int) ≤ 5) = true by decide]
  rintro e w8 ⟨rfl, b8⟩
  have B8 := hid ((B7.out.add _).below b8)
  clear b8 c0 c1
  obtain ⟨c0, c1⟩ := B8.out.c2 mem6
  go_wp2_with fail
  refine (gapHas_any 1 5 5 _).mono ?_
  rw [show hasOf 1 5 5 = true by decide]
  rintro e w9 ⟨rfl, b9⟩
  have B9 := hid (B8.out.below b9)
  clear b9 c0 c1
  obtain ⟨c0, c1⟩ := B9.out.c2 mem6
  go_wp2_with fail
  refine (gapHas_any 1 5 6 _).mono ?_
  rw [show hasOf 1 5 6 = false by decide]
  rintro e w10 ⟨rfl, b10⟩
  have B10 := hid (B9.out.below b10)
  clear b10 c0 c1
  obtain ⟨c0, c1⟩ := B10.out.c2 mem6
  obtain ⟨d0, d1⟩ := B10.out.c2 mem3
  go_wp2_with fail
  refine (gapWithin_any 1 5 1 9 _).mono ?_
  rw [show withinOf 1 5 1 9 = true by decide]
  rintro e w11 ⟨rfl, b11⟩
  have B11 := hid (B10.out.below b11)
  clear b11 c0 c1 d0 d1
  obtain ⟨c0, c1⟩ := B11.out.c2 mem6
  go_wp2_with fail
  refine (gapWidth_any 1 5 _ (by decide) (by decide)).mono ?_
  rw [show widthOf 1 5 = 4 by decide]
  rintro e w12 ⟨rfl, b12⟩
  have B12 := hid (B11.out.below b12)
  clear b12 c0 c1
  go_wp2_with fail
  refine (gapMid_any (-3) 0 _ (by decide) (by decide)).mono ?_
  rw [show midOf (-3) 0 = -2 by decide]
  rintro e w13 ⟨rfl, b13⟩
  have B13 := hid (B12.out.below b13)
  clear b13
  obtain ⟨c0, c1⟩ := B13.out.c2 mem0
  obtain ⟨d0, d1⟩ := B13.out.c2 mem1
  obtain ⟨e0, e1⟩ := B13.out.c2 mem3
  obtain ⟨f0, f1⟩ := B13.out.c2 mem4
  go_wp2_with fail
  go_ret
  exact ⟨rfl, B13.out.bel⟩
#print axioms alive03_any
end Go.Proofs.Ytjhekggeofalfaa
