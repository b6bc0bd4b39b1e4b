/- Contracts of wide.Add, Sub, Cmp: the walks. -/
import Derived.Test.YtjhekggeofalfaaDoorWide4
import Derived.Deep.DeepCutAuto
namespace Go.Proofs.YtjhekggeofalfaaDoor
open Go.RowKit

noncomputable def sat2 (z : Int) : Int := open Classical in if Fits2 z then z else 0
open Classical in
noncomputable def err2 (z : Int) : Int := if Fits2 z then 0 else 12

set_option maxRecDepth 20000 in
theorem wideAdd_any (a b : Int) (w : World) (ha : Fits2 a) (hb : Fits2 b) :
    Calls Tryd.prog 9 #[wideV a, wideV b] w fun e w' => e = .returned (.tuple #[wideV (sat2 (a + b)), .int .i64 (err2 (a + b))]) ∧ Below w.heap.size w w' := by
  obtain ⟨s1, s2, s3⟩ := add_words ha hb
  have A1 := hi_fits ha
  have B1 := hi_fits hb
  unfold wideV
  have AR := add64_run (a % 18446744073709551616) (b % 18446744073709551616) 0 (by omega) (by omega) (by decide) (by decide)
  rw [Int.add_zero] at AR
  go_enter Tryd.func9, Tryd.ntmps9
  go_upto_region 3 with fail
  rw [show wrap64 (wrap64 (a / 18446744073709551616 + b / 18446744073709551616) + (a % 18446744073709551616 + b % 18446744073709551616) / 18446744073709551616) = wrap64 (a / 18446744073709551616 + b / 18446744073709551616 + (a % 18446744073709551616 + b % 18446744073709551616) / 18446744073709551616) by unfold wrap64; omega]
  by_cases f : Fits2 (a + b)
  · have S2 := hid (s2 f)
    have no := fun t => s1.1 t f
    have SA := hid (show sat2 (a + b) = a + b from if_pos f)
    have ER := hid (show err2 (a + b) = 0 from if_pos f)
    have S3 := hid s3
    generalize wrap64 (a / 18446744073709551616 + b / 18446744073709551616 + (a % 18446744073709551616 + b % 18446744073709551616) / 18446744073709551616) = h at *
    clear s1 s2 s3 AR f
    have B := hid (Blks.three w (.cells #[.int .i64 (a / 18446744073709551616), .int .u64 (a % 18446744073709551616)] 24) (.cells #[.int .i64 (b / 18446744073709551616), .int .u64 (b % 18446744073709551616)] 24) (.cells #[.int .i64 0, .int .u64 0] 24))
    go_wp2_with fail
    exact bodyPost_ret (v := .tuple #[.agg #[.int .i64 h, .int .u64 ((a + b) % 18446744073709551616)], .int .i64 0]) (by simp [results, Tryd.results9, go_sem]) rfl
      ⟨by rw [SA.out, ER.out, S2.out], (((Below.refl _ _).alloc (Nat.le_refl _) _).alloc (by simp) _).alloc (by simp; omega) _⟩
  · have yes := s1.2 f
    have SA := hid (show sat2 (a + b) = 0 from if_neg f)
    have ER := hid (show err2 (a + b) = 12 from if_neg f)
    generalize wrap64 (a / 18446744073709551616 + b / 18446744073709551616 + (a % 18446744073709551616 + b % 18446744073709551616) / 18446744073709551616) = h at *
    clear s1 s2 s3 AR f
    go_wp2_with fail
    exact bodyPost_ret (v := .tuple #[.agg #[.int .i64 0, .int .u64 0], .int .i64 12]) (by simp [results, Tryd.results9, go_sem]) rfl
      ⟨by rw [SA.out, ER.out]; rfl, (((Below.refl _ _).alloc (Nat.le_refl _) _).alloc (by simp) _).alloc (by simp; omega) _⟩
end Go.Proofs.YtjhekggeofalfaaDoor
