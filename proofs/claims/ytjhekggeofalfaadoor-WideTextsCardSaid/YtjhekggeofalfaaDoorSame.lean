/- Contract of noonmarklaw02.same. -/
import Derived.Test.YtjhekggeofalfaaDoorWords
namespace Go.Proofs.YtjhekggeofalfaaDoor
open Go.RowKit

set_option maxRecDepth 100000 in
set_option maxHeartbeats 1000000 in
theorem same_any (v : Value) (z : Int) (w : World) (h : NumIs w v z) (md : Mid150 z) :
    Calls Tryd.prog 14 #[wideV (sat2 z), .int .i64 (err2 z), v] w fun e w' => e = .returned (.bool true) ∧ Below w.heap.size w w' := by
  have HN := hid h
  have MD := hid md
  obtain ⟨s, ds, rfl, hr, -, -⟩ := h
  obtain ⟨A, c, rfl, -, -, -⟩ := hr
  generalize hp : decide (z < 0) = p at *
  generalize ds.length = n at *
  clear hp md
  by_cases f : Fits2 z
  · rw [show sat2 z = z from if_pos f, show err2 z = 0 from if_pos f]
    have H1 := hid (show hiW z = z / 18446744073709551616 from if_pos f)
    have H2 := hid (show loW z = z % 18446744073709551616 from if_pos f)
    have F := hid f
    clear f
    unfold wideV
    have B := hid (Blks.two w (.cells #[.int .i64 (z / 18446744073709551616), .int .u64 (z % 18446744073709551616)] 24) (.cells #[.bool p, .slice A n c] 34))
    go_enter Tryd.func14, Tryd.ntmps14
    go_wp2_with fail
    refine (words_any _ z _ (HN.out.below B.out.bel) MD.out).mono ?_
    rw [decide_eq_true F.out, H1.out, H2.out]
    clear HN MD F H1 H2
    generalize z / 18446744073709551616 = q at *
    generalize z % 18446744073709551616 = r at *
    rintro e w1 ⟨rfl, b1⟩
    replace B := hid (B.out.below b1)
    clear b1
    obtain ⟨c0, c1⟩ := B.out.c2 mem1
    go_wp2_with fail
    go_ret
    exact ⟨rfl, B.out.bel⟩
  · rw [show sat2 z = 0 from if_neg f, show err2 z = 12 from if_neg f]
    have F := hid f
    clear f
    show Calls Tryd.prog 14 #[.agg #[.int .i64 0, .int .u64 0], .int .i64 12, .agg #[.bool p, .slice A n c]] w _
    have B := hid (Blks.two w (.cells #[.int .i64 0, .int .u64 0] 24) (.cells #[.bool p, .slice A n c] 34))
    go_enter Tryd.func14, Tryd.ntmps14
    go_wp2_with fail
    refine (words_any _ z _ (HN.out.below B.out.bel) MD.out).mono ?_
    rw [decide_eq_false F.out]
    clear HN MD F
    generalize hiW z = q at *
    generalize loW z = r at *
    rintro e w1 ⟨rfl, b1⟩
    replace B := hid (B.out.below b1)
    clear b1
    obtain ⟨c0, c1⟩ := B.out.c2 mem1
    go_wp2_with fail
    go_ret
    exact ⟨rfl, B.out.bel⟩
end Go.Proofs.YtjhekggeofalfaaDoor
