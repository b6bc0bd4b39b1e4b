/- How a wide number comes in and goes out; what the listed tables give; a world that holds them. -/
import Derived.Test.YtjhekggeofalfaaDoorCards
import Derived.Test.YtjhekggeofalfaaDoorTie
import Derived.Test.YtjhekggeofalfaaDoorShelfW
import Derived.Test.YtjhekggeofalfaaDoorWide8
import Derived.WalkKit
import Derived.ProofKit
import Derived.OpenShut
import Derived.ChangeSame
import Derived.ChangeOld
import Derived.Below
import Derived.Carry
import Derived.Lib.SmallJoins
import Derived.Deep.DeepHandedRow
import Derived.Lib.LaidTab
import Derived.Stop.LaidErr
namespace Go.Proofs.YtjhekggeofalfaaDoor
open Go.ChangeShapes Go.WideShapes Go.ChangeAt Go.RowKit Go.Joins

theorem own : ownKnob Tryd.prog.godebug = none := by kernel_rfl
theorem laidOut : laidOutB Tryd.prog = true := by kernel_rfl
theorem cells_i64 : Tryd.prog.cellsOf 2 = 1 := by kernel_rfl
theorem cells_u64 : Tryd.prog.cellsOf 22 = 1 := by kernel_rfl
theorem cells_u8 : Tryd.prog.cellsOf 5 = 1 := by kernel_rfl
theorem cells_wide : Tryd.prog.cellsOf 24 = 2 := by kernel_rfl
theorem fits_wf {z : Int} : (Lit.int .i64 z).wf = true ↔ Fits z := by
  simp only [Lit.wf, Fits, Bool.and_eq_true, decide_eq_true_eq]
  rw [show IntKind.i64.min = -9223372036854775808 by decide, show IntKind.i64.max = 9223372036854775807 by decide]
theorem u64_wf {z : Int} : (Lit.int .u64 z).wf = true ↔ U64 z := by
  simp only [Lit.wf, U64, Bool.and_eq_true, decide_eq_true_eq]
  rw [show IntKind.u64.min = 0 by decide, show IntKind.u64.max = 18446744073709551615 by decide]
theorem u8_wf {z : Int} : (Lit.int .u8 z).wf = true ↔ 0 ≤ z ∧ z < 256 := by
  simp only [Lit.wf, Bool.and_eq_true, decide_eq_true_eq]
  rw [show IntKind.u8.min = 0 by decide, show IntKind.u8.max = 255 by decide]
  omega
set_option maxRecDepth 100000 in
theorem open_wide {H : Type} {enc : TypeId × Value → H} {W : World} {b0 base : Nat} {spare : Nat → Bool} {held : Bool} {v : Value} {d : DataW H} {p : List MemPlace}
    (hv : Value.okWide Tryd.prog W .any b0 24 v) (h : DataW.Trod enc Tryd.prog W base spare held 24 v d p) :
    ∃ z : Int, v = wideV z ∧ d = .agg [.lit (.int .i64 (z / 18446744073709551616)), .lit (.int .u64 (z % 18446744073709551616))] ∧ p = [] ∧ Fits2 z := by
  obtain ⟨c0, c1, y0, y1, m, rfl, rfl, rfl, hy0, hy1⟩ := open_agg2 Tryd.underlying24 (by kernel_rfl) cells_wide hv h
  obtain ⟨a, e0, rfl, wa⟩ := DataW.trod_int Tryd.underlying2 hy0
  obtain ⟨b, e1, rfl, wb⟩ := DataW.trod_int Tryd.underlying22 hy1
  simp at e0 e1
  subst e0 e1
  obtain ⟨a1, a2⟩ := fits_wf.1 wa
  obtain ⟨b1, b2⟩ := u64_wf.1 wb
  have e1 : (a * 18446744073709551616 + b) / 18446744073709551616 = a := by omega
  have e2 : (a * 18446744073709551616 + b) % 18446744073709551616 = b := by omega
  exact ⟨a * 18446744073709551616 + b, by rw [wideV, e1, e2], by rw [e1, e2], rfl, ⟨by omega, by omega⟩⟩
theorem trodAll_below {H : Type} {enc : TypeId × Value → H} {P : Program} (hl : laidOutB P = true) {W W' : World} (hb : Below W.heap.size W W') :
    ∀ {ts : List TypeId} {vs : List Value} {ds : List (DataW H)} {ps : List MemPlace}, (ts.all fun t => P.readableRec t && decide (t < P.types.size)) = true →
      DataW.TrodAll enc P W 0 (fun _ => true) true ts vs ds ps → DataW.TrodAll enc P W' 0 (fun b => decide (b < W.heap.size)) true ts vs ds ps
  | [], _, _, _, _, h => by
    obtain ⟨rfl, rfl, rfl⟩ := trodAll_nil h
    exact trodAll_mk0
  | t :: ts, vs, ds, ps, hr, h => by
    have hlt := h.lt
    obtain ⟨v, vs1, d, ds1, p, q, rfl, rfl, rfl, h1, h2⟩ := trodAll_cons h
    rw [List.all_cons, Bool.and_eq_true, Bool.and_eq_true, decide_eq_true_eq] at hr
    exact trodAll_cons_mk (Below.trod hl hr.1.1 hr.1.2 h1 hb fun x hx => hlt x (List.mem_append_left _ hx)) (trodAll_below hl hb hr.2 h2)

/-- What the listed variables give: the table of the powers of ten. -/
theorem gPow : Tryd.prog.globalNamed powName = some 2 := by kernel_rfl
theorem gPowType : (Tryd.prog.globals[2]?).map (·.type) = some 111 := by kernel_rfl
theorem cells_tab : Tryd.prog.cellsOf 111 = 20 := by kernel_rfl
theorem powTab {W : World} (h : laidMetH Tryd.prog Rows.wideSwapsRow.laid W) : PowTab W :=
  Lib.tabIs_of_head (rest := []) gPow gPowType Tryd.underlying111 Tryd.underlying22 cells_u64 cells_tab (laidMet.tail (laidMet.tail h))

/-- The numbers of a listed table. -/
def tabOf : DataW Unit → List Int
  | .agg xs => xs.map fun | .lit (.int _ z) => z | _ => 0
  | _ => []
/-- A world for the witness: the settled one, each listed table's block holding what its initialiser lays. -/
def layTab (zs : List Value) (o : Obj) : Obj :=
  match o with
  | .cells _ t frozen => .cells zs.toArray t frozen
  | o => o
noncomputable def laidWorld (os : Os) : World :=
  { World.holding Tryd.prog os ⟨#[], #[], []⟩ with
    heap := (((World.holding Tryd.prog os ⟨#[], #[], []⟩).heap.modify 2 (layTab ((tabOf Rows.laid_internal_strconv_uint64pow10).map (Value.int .u64)))).modify 4 (layTab ((tabOf Rows.laid_math_bits_deBruijn32tab).map (Value.int .u8)))).modify 5 (layTab ((tabOf Rows.laid_math_bits_deBruijn64tab).map (Value.int .u8))) }
end Go.Proofs.YtjhekggeofalfaaDoor
