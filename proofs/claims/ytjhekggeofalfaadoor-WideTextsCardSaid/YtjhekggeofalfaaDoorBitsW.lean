/- Contracts of math/bits.Add64, of Div64 where the high word is 0 (without the package safe). -/
import Derived.Test.YtjhekggeofalfaaDoorBits
import Derived.Test.YtjhekggeofalfaaDoorNum
import Derived.Test.YtjhekggeofalfaaDoorTame
import Derived.Laws.Externs
namespace Go.Proofs.YtjhekggeofalfaaDoor
open Go.RowKit

/-- What Div64 answers. -/
def D64 (hi lo y : Int) : Prop := ∀ w : World, Calls Tryd.prog 48 #[.int .u64 hi, .int .u64 lo, .int .u64 y] w fun e w' =>
  e = .returned (.tuple #[.int .u64 ((hi * 18446744073709551616 + lo) / y), .int .u64 ((hi * 18446744073709551616 + lo) % y)]) ∧ Below w.heap.size w w'

theorem add64_run (x y c : Int) (hx : 0 ≤ x) (hy : 0 ≤ y) (hc0 : 0 ≤ c) (hc : c ≤ 1) (w : World) :
    (callFunc 35 #[.int .u64 x, .int .u64 y, .int .u64 c]).run Tryd.prog w =
      .ok (.value (.tuple #[.int .u64 ((x + y + c) % 18446744073709551616), .int .u64 ((x + y + c) / 18446744073709551616)])) w := by
  rw [run_callFunc_extern Tryd.func35 (by kernel_rfl) (by kernel_rfl) (by kernel_rfl) (e := add64Entry) (by kernel_rfl), run_add64 x y c hx hy hc0 hc]
  rfl

set_option maxRecDepth 20000 in
set_option maxHeartbeats 1000000 in
theorem div64_zero (lo y : Int) (hl : U64 lo) (hy0 : 1 ≤ y) (hy1 : y ≤ 18446744073709551615) : D64 0 lo y := by
  intro w
  obtain ⟨l0, l1⟩ := hl
  have E := hid (show (0 : Int) * 18446744073709551616 + lo = lo by omega)
  rw [E.out]
  go_enter Tryd.func48, Tryd.ntmps48
  go_wp2_with fail
  go_quiet (fail)
  go_wp2_with fail
  go_ret2
  exact ⟨rfl, ⟨rfl, rfl, rfl, Nat.le_refl _, fun _ _ => rfl⟩⟩

end Go.Proofs.YtjhekggeofalfaaDoor
