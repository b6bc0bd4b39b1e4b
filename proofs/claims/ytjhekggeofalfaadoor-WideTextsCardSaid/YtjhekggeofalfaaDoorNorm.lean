/- math/bits.Div64: the divisor shifted to the word's top: plain numbers. -/
import Derived.Test.YtjhekggeofalfaaDoorPlain
import Derived.Laws.BitsAllLaws
namespace Go.Proofs.YtjhekggeofalfaaDoor

theorem pow_split (s : Nat) (hs : s ≤ 63) : (2 : Int) ^ s * 2 ^ (64 - s) = 18446744073709551616 ∧ (0 : Int) < 2 ^ s ∧ (0 : Int) < 2 ^ (64 - s) := by
  refine ⟨?_, Int.pow_pos (by decide), Int.pow_pos (by decide)⟩
  rw [← Int.pow_add, show s + (64 - s) = 64 by omega]
  decide
theorem or_parts {hi t : Int} {s : Nat} (h0 : 0 ≤ hi) (t0 : 0 ≤ t) (t1 : t < 2 ^ s) (hw : hi * 2 ^ s + t ≤ 18446744073709551615) : bits .or .u64 (hi * 2 ^ s) t = hi * 2 ^ s + t := by
  obtain ⟨a, rfl⟩ := Int.eq_ofNat_of_zero_le h0
  obtain ⟨b, rfl⟩ := Int.eq_ofNat_of_zero_le t0
  have e : ((a : Int) * 2 ^ s) = ((a * 2 ^ s : Nat) : Int) := by simp
  have hb : b < 2 ^ s := by exact_mod_cast t1
  rw [e] at hw ⊢
  rw [u64_or_nat (a * 2 ^ s) b (by omega) (by omega)]
  rw [← Nat.shiftLeft_eq, ← Nat.shiftLeft_add_eq_or_of_lt hb]
  simp
/-- What the shifted words are. -/
def NormOf (hi lo y : Int) (s : Nat) (h l u d1 d0 : Int) : Prop :=
  IntKind.u64.wrap (y * 2 ^ s) = h * 4294967296 + l ∧ bits .or .u64 (IntKind.u64.wrap (hi * 2 ^ s)) (lo / 2 ^ (64 - s)) = u ∧ IntKind.u64.wrap (lo * 2 ^ s) = d1 * 4294967296 + d0 ∧
    2147483648 ≤ h ∧ h < 4294967296 ∧ 0 ≤ l ∧ l < 4294967296 ∧ 0 ≤ u ∧ u < h * 4294967296 + l ∧ 0 ≤ d1 ∧ d1 < 4294967296 ∧ 0 ≤ d0 ∧ d0 < 4294967296 ∧
    ((u * 4294967296 + d1) * 4294967296 + d0) / (h * 4294967296 + l) = (hi * 18446744073709551616 + lo) / y ∧
    ((u * 4294967296 + d1) * 4294967296 + d0) % (h * 4294967296 + l) / 2 ^ s = (hi * 18446744073709551616 + lo) % y
theorem norm_of {hi lo y : Int} {s : Nat} (hs : s ≤ 63) (h0 : 0 ≤ hi) (h1 : hi < y) (l0 : 0 ≤ lo) (l1 : lo ≤ 18446744073709551615) (t0 : 9223372036854775808 ≤ y * 2 ^ s) (t1 : y * 2 ^ s ≤ 18446744073709551615) :
    ∃ h l u d1 d0, NormOf hi lo y s h l u d1 d0 := by
  obtain ⟨p1, p2, p3⟩ := pow_split s hs
  have or_ := @or_parts hi (lo / 2 ^ (64 - s)) s h0
  unfold NormOf
  generalize (2 : Int) ^ s = P at *
  generalize (2 : Int) ^ (64 - s) = R at *
  have e := Int.mul_ediv_add_emod lo R
  have q0 := Int.ediv_nonneg l0 (show 0 ≤ R by omega)
  have r0 := Int.emod_nonneg lo (show R ≠ 0 by omega)
  have r1 := Int.emod_lt_of_pos lo p3
  have q1 : lo / R < P := by rw [Int.ediv_lt_iff_lt_mul p3]; omega
  have a1 : hi * P + P ≤ y * P := by
    have := Int.mul_le_mul_of_nonneg_right (show hi + 1 ≤ y by omega) (show 0 ≤ P by omega)
    rw [Int.add_mul, Int.one_mul] at this
    exact this
  have a0 := Int.mul_nonneg h0 (show 0 ≤ P by omega)
  have f0 := Int.mul_nonneg r0 (show 0 ≤ P by omega)
  have f1 : lo % R * P < 18446744073709551616 := by
    have := Int.mul_lt_mul_of_pos_right r1 p2
    rw [Int.mul_comm R P, p1] at this
    exact this
  have e2 : lo * P = lo / R * 18446744073709551616 + lo % R * P := by
    conv => lhs; rw [← e]
    rw [Int.add_mul, ← p1]
    congr 1
    rw [Int.mul_comm R, Int.mul_assoc, Int.mul_comm R P]
  have w2 : (lo * P) % 18446744073709551616 = lo % R * P := by rw [e2]; omega
  have w1 : (hi * P) % 18446744073709551616 = hi * P := by omega
  have w0 : (y * P) % 18446744073709551616 = y * P := by omega
  have big : (hi * P + lo / R) * 18446744073709551616 + lo % R * P = (hi * 18446744073709551616 + lo) * P := by
    rw [Int.add_mul, Int.add_mul, e2]
    rw [Int.mul_right_comm hi P]
    omega
  have o := or_ q0 q1 (by omega)
  refine ⟨y * P / 4294967296, y * P % 4294967296, hi * P + lo / R, lo % R * P / 4294967296, lo % R * P % 4294967296, ?_⟩
  have ey : y * P / 4294967296 * 4294967296 + y * P % 4294967296 = y * P := by omega
  have el : lo % R * P / 4294967296 * 4294967296 + lo % R * P % 4294967296 = lo % R * P := by omega
  have eb : ((hi * P + lo / R) * 4294967296 + lo % R * P / 4294967296) * 4294967296 + lo % R * P % 4294967296 = (hi * 18446744073709551616 + lo) * P := by
    rw [← big]
    omega
  rw [ey, el, eb, u64_wrap, u64_wrap, u64_wrap, w0, w1, w2, o]
  refine ⟨rfl, rfl, rfl, by omega, by omega, by omega, by omega, by omega, by omega, by omega, by omega, by omega, by omega, ?_, ?_⟩
  · exact Int.mul_ediv_mul_of_pos_left _ _ p2
  · rw [Int.mul_comm _ P, Int.mul_comm y P, Int.mul_emod_mul_of_pos _ _ p2, Int.mul_ediv_cancel_left _ (by omega)]
end Go.Proofs.YtjhekggeofalfaaDoor
