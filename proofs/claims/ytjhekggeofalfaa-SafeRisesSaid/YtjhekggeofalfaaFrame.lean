/- How a gap and an integer come in and go out, for the proofs of the statements. -/
import Derived.Test.YtjhekggeofalfaaRows
import Derived.Test.YtjhekggeofalfaaGap
import Derived.WalkKit
import Derived.ProofKit
import Derived.OpenShut
import Derived.ChangeSame
import Derived.ChangeOld
import Derived.Below
import Derived.Lib.SmallJoins
namespace Go.Proofs.Ytjhekggeofalfaa
open Go.ChangeShapes Go.WideShapes Go.ChangeAt Go.RowKit Go.Joins

theorem own : ownKnob Try.prog.godebug = none := by kernel_rfl
theorem laidOut : laidOutB Try.prog = true := by kernel_rfl
theorem cells_i64 : Try.prog.cellsOf 2 = 1 := by kernel_rfl
theorem cells_gap : Try.prog.cellsOf 23 = 2 := by kernel_rfl
theorem fits_wf {z : Int} : (Lit.int .i64 z).wf = true ↔ Fits z := by
  simp only [Lit.wf, Fits, Bool.and_eq_true, decide_eq_true_eq]
  rw [show IntKind.i64.min = -9223372036854775808 by decide, show IntKind.i64.max = 9223372036854775807 by decide]
set_option maxRecDepth 100000 in
theorem open_gap {H : Type} {enc : TypeId × Value → H} {W : World} {b0 base : Nat} {spare : Nat → Bool} {held : Bool} {v : Value} {d : DataW H} {p : List MemPlace}
    (hv : Value.okWide Try.prog W .any b0 23 v) (h : DataW.Trod enc Try.prog W base spare held 23 v d p) :
    ∃ lo hi : Int, v = gapV lo hi ∧ d = .agg [.lit (.int .i64 lo), .lit (.int .i64 hi)] ∧ p = [] ∧ Fits lo ∧ Fits hi := by
  obtain ⟨c0, c1, y0, y1, m, rfl, rfl, rfl, hy0, hy1⟩ := open_agg2 Try.underlying23 (by kernel_rfl) cells_gap hv h
  obtain ⟨a, e0, rfl, wa⟩ := DataW.trod_int Try.underlying2 hy0
  obtain ⟨b, e1, rfl, wb⟩ := DataW.trod_int Try.underlying2 hy1
  simp at e0 e1
  subst e0 e1
  exact ⟨a, b, rfl, rfl, rfl, fits_wf.1 wa, fits_wf.1 wb⟩
set_option maxRecDepth 100000 in
theorem shut_gap {H : Type} {enc : TypeId × Value → H} {W : World} {base : Nat} {spare : Nat → Bool} {held : Bool} {lo hi : Int} (h1 : Fits lo) (h2 : Fits hi) :
    DataW.Trod enc Try.prog W base spare held 23 (gapV lo hi) (.agg [.lit (.int .i64 lo), .lit (.int .i64 hi)]) [] :=
  shut_agg2 (y0 := (.lit (.int .i64 lo), [])) (y1 := (.lit (.int .i64 hi), [])) Try.underlying23 (by kernel_rfl) cells_gap
    ⟨1, by simp [DataW.trod, Try.underlying2, fits_wf.2 h1]⟩ ⟨1, by simp [DataW.trod, Try.underlying2, fits_wf.2 h2]⟩
end Go.Proofs.Ytjhekggeofalfaa
