/- Contracts of math/bits.Len64 and LeadingZeros64. -/
import Derived.Test.YtjhekggeofalfaaDoorProg
import Derived.Lib.BitFns
import Derived.Lib.Small
import Derived.Lib.Strings
import Derived.Lib.Slices
import Derived.Lib.Walk
namespace Go.Proofs.YtjhekggeofalfaaDoor

theorem len_way {x y s : Int} (n d : Nat) (hs : s = n) (hn : n ≤ 64) (y0 : 0 ≤ y) (y1 : y ≤ 255) (hd : y.toNat = x.toNat / d) (hb : Lib.bitLen x.toNat = n + Lib.bitLen (x.toNat / d)) :
    (s + ((Lib.len8 y + 9223372036854775808) % 18446744073709551616 - 9223372036854775808) + 9223372036854775808) % 18446744073709551616 - 9223372036854775808 = (Lib.bitLen x.toNat : Int) := by
  have l := Lib.bitLen_le8' y y0 y1
  rw [Lib.len8_int y y0 y1, hb, ← hd]
  omega
set_option maxHeartbeats 4000000 in
set_option maxRecDepth 100000 in
theorem len64_any (x : Int) (w : World) (h0 : 0 ≤ x) (h1 : x ≤ 18446744073709551615) :
    Calls Tryd.prog 64 #[.int .u64 x] w fun e w' => e = .returned (.int .i64 (Lib.bitLen x.toNat)) ∧ w' = w := by
  go_enter Tryd.func64, Tryd.ntmps64
  go_wp2
  all_goals (go_ret; refine ⟨congrArg Ending.returned (congrArg (Value.int IntKind.i64) ?_), rfl⟩)
  all_goals first
    | (rw [Lib.len8_int (x % 256) (by omega) (by omega)]; have e : (x % 256).toNat = x.toNat := by omega
       rw [e])
    | exact len_way 56 72057594037927936 rfl (by decide) (by omega) (by omega) (by omega) (Lib.bitLen_shift56 x.toNat (by omega) (by omega))
    | exact len_way 48 281474976710656 rfl (by decide) (by omega) (by omega) (by omega) (Lib.bitLen_shift48 x.toNat (by omega) (by omega))
    | exact len_way 40 1099511627776 rfl (by decide) (by omega) (by omega) (by omega) (Lib.bitLen_shift40 x.toNat (by omega) (by omega))
    | exact len_way 32 4294967296 rfl (by decide) (by omega) (by omega) (by omega) (Lib.bitLen_shift32 x.toNat (by omega) (by omega))
    | exact len_way 24 16777216 rfl (by decide) (by omega) (by omega) (by omega) (Lib.bitLen_shift24 x.toNat (by omega) (by omega))
    | exact len_way 16 65536 rfl (by decide) (by omega) (by omega) (by omega) (Lib.bitLen_shift16 x.toNat (by omega) (by omega))
    | exact len_way 8 256 rfl (by decide) (by omega) (by omega) (by omega) (Lib.bitLen_shift8 x.toNat (by omega) (by omega))

set_option maxRecDepth 100000 in
theorem lz64_any (x : Int) (w : World) (h0 : 0 ≤ x) (h1 : x ≤ 18446744073709551615) :
    Calls Tryd.prog 55 #[.int .u64 x] w fun e w' => e = .returned (.int .i64 (64 - (Lib.bitLen x.toNat : Int))) ∧ w' = w := by
  have l : Lib.bitLen x.toNat ≤ 64 := Lib.bitLen_le x.toNat 64 (by omega) (by omega)
  go_enter Tryd.func55, Tryd.ntmps55
  go_wp2_with fail
  refine (len64_any x _ h0 h1).mono ?_
  generalize Lib.bitLen x.toNat = b at *
  rintro e w' ⟨rfl, rfl⟩
  go_wp2_with fail
  go_ret
  refine ⟨congrArg Ending.returned (congrArg (Value.int IntKind.i64) ?_), rfl⟩
  omega
/-- The shift lays the number's highest bit at the word's top. -/
theorem bitLen_top : ∀ (b x : Nat), Lib.bitLen x = b → 0 < x → x < 2 ^ 64 → x < 2 ^ b ∧ 2 ^ b ≤ 2 * x
  | 0, x, h, hx, hl => by
    rw [Lib.bitLen_half x (by omega) hl] at h; omega
  | b + 1, x, h, hx, hl => by
    rw [Lib.bitLen_half x (by omega) hl] at h
    by_cases h2 : x / 2 = 0
    · rw [h2, show Lib.bitLen 0 = 0 by decide] at h
      obtain rfl : b = 0 := by omega
      constructor <;> omega
    · obtain ⟨i1, i2⟩ := bitLen_top b (x / 2) (by omega) (by omega) (by omega)
      rw [Nat.pow_succ]
      constructor <;> omega
end Go.Proofs.YtjhekggeofalfaaDoor
