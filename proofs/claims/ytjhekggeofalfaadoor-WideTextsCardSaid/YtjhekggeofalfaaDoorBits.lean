/- Contracts of math/bits: Mul64. -/
import Derived.Test.YtjhekggeofalfaaDoorPlain
import Derived.Test.YtjhekggeofalfaaDoorProg
import Derived.WalkSpells
import Derived.WalkLawsBesides
namespace Go.Proofs.YtjhekggeofalfaaDoor
open Go.RowKit

set_option maxHeartbeats 400000 in
theorem mul64_any (x y : Int) (w : World) (hx : U64 x) (hy : U64 y) :
    Calls Tryd.prog 44 #[.int .u64 x, .int .u64 y] w fun e w' =>
      e = .returned (.tuple #[.int .u64 (x * y / 18446744073709551616), .int .u64 (x * y % 18446744073709551616)]) ∧ w = w' := by
  have m1 := u64_mask32 x hx
  have m2 := u64_mask32 y hy
  have ar := mul64_arith x y hx.1 (by have := hx.2; omega) hy.1 (by have := hy.2; omega)
  obtain ⟨hx0, hx1⟩ := hx
  obtain ⟨hy0, hy1⟩ := hy
  have AR := hid ar
  have M1 := hid m1
  have M2 := hid m2
  clear ar m1 m2
  go_enter Tryd.func44, Tryd.ntmps44
  go_wp2
  go_ret2
  refine ⟨ret2 ?_ ?_, rfl⟩
  · have m3 : ∀ z, bits .and .u64 (z % 18446744073709551616) 4294967295 = z % 18446744073709551616 % 4294967296 := fun z => u64_mask32 _ ⟨by omega, by omega⟩
    simp only [m3, M1.out, M2.out, u64_wrap]
    rw [← AR.out]
  · exact u64_wrap _
end Go.Proofs.YtjhekggeofalfaaDoor
