/- How a grid comes in, for the proofs of the statements. -/
import Derived.Test.YtjhekggeofalfaaFrame
import Derived.Test.YtjhekggeofalfaaGrid
namespace Go.Proofs.Ytjhekggeofalfaa
open Go.ChangeShapes Go.WideShapes Go.ChangeAt Go.RowKit Go.Joins

theorem cells_grid : Try.prog.cellsOf 53 = 3 := by kernel_rfl
set_option maxRecDepth 100000 in
theorem open_grid {H : Type} {enc : TypeId × Value → H} {W : World} {b0 base : Nat} {spare : Nat → Bool} {held : Bool} {v : Value} {d : DataW H} {p : List MemPlace}
    (hv : Value.okWide Try.prog W .any b0 53 v) (h : DataW.Trod enc Try.prog W base spare held 53 v d p) :
    ∃ wd po mo : Int, v = gridV wd po mo ∧ d = .agg [.lit (.int .i64 wd), .lit (.int .i64 po), .lit (.int .i64 mo)] ∧ p = [] ∧ Fits wd ∧ Fits po ∧ Fits mo := by
  obtain ⟨c0, c1, c2, y0, y1, y2, m, rfl, rfl, rfl, hy0, hy1, hy2⟩ := open_agg3 Try.underlying53 (by kernel_rfl) cells_grid hv h
  obtain ⟨a, e0, rfl, wa⟩ := DataW.trod_int Try.underlying2 hy0
  obtain ⟨b, e1, rfl, wb⟩ := DataW.trod_int Try.underlying3 hy1
  obtain ⟨c, e2, rfl, wc⟩ := DataW.trod_int Try.underlying2 hy2
  simp at e0 e1 e2
  subst e0 e1 e2
  exact ⟨a, b, c, rfl, rfl, rfl, fits_wf.1 wa, fits_wf.1 wb, fits_wf.1 wc⟩
end Go.Proofs.Ytjhekggeofalfaa
