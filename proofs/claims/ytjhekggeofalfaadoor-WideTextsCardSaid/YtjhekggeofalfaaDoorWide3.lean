/- Contracts of wide.Times, Cmp. -/
import Derived.Test.YtjhekggeofalfaaDoorWide2
namespace Go.Proofs.YtjhekggeofalfaaDoor
open Go.RowKit

theorem natAbs_fit {v : Int} (h : Fits v) : U64 (v.natAbs : Int) ∧ (v.natAbs : Int) ≤ 9223372036854775808 := by
  obtain ⟨h1, h2⟩ := h; exact ⟨⟨by omega, by omega⟩, by omega⟩
/-- The product's size and sign. -/
theorem times_words {a b : Int} (ha : Fits a) (hb : Fits b) :
    let p := (a.natAbs : Int) * b.natAbs
    0 ≤ p ∧ p ≤ 85070591730234615865843651857942052864 ∧ (if (decide (a < 0) != decide (b < 0)) then -p else p) = a * b := by
  have h0 := Int.mul_nonneg (show (0 : Int) ≤ a.natAbs by omega) (show (0 : Int) ≤ b.natAbs by omega)
  refine ⟨h0, ?_, ?_⟩
  · have h1 := Int.mul_le_mul_of_nonneg_right (natAbs_fit ha).2 (show (0 : Int) ≤ b.natAbs by omega)
    have h2 := (natAbs_fit hb).2
    omega
  · by_cases x : a < 0
    · by_cases y : b < 0
      · rw [decide_eq_true x, decide_eq_true y]
        rw [show (a.natAbs : Int) = -a by omega, show (b.natAbs : Int) = -b by omega, Int.neg_mul_neg]; rfl
      · rw [decide_eq_true x, decide_eq_false y]
        rw [show (a.natAbs : Int) = -a by omega, show (b.natAbs : Int) = b by omega, Int.neg_mul, Int.neg_neg]; rfl
    · by_cases y : b < 0
      · rw [decide_eq_false x, decide_eq_true y]
        rw [show (a.natAbs : Int) = a by omega, show (b.natAbs : Int) = -b by omega, Int.mul_neg, Int.neg_neg]; rfl
      · rw [decide_eq_false x, decide_eq_false y]
        rw [show (a.natAbs : Int) = a by omega, show (b.natAbs : Int) = b by omega]; rfl
set_option maxRecDepth 20000 in
theorem wideTimes_any (a b : Int) (w : World) (ha : Fits a) (hb : Fits b) :
    Calls Tryd.prog 22 #[.int .i64 a, .int .i64 b] w fun e w' => e = .returned (wideV (a * b)) ∧ Below w.heap.size w w' := by
  obtain ⟨p0, p1, p2⟩ := times_words ha hb
  have U1 := hid (natAbs_fit ha).1
  have U2 := hid (natAbs_fit hb).1
  have H1 := hid ha
  have H2 := hid hb
  have P2 := hid p2
  clear ha hb p2
  have SB := hid (show (a.natAbs : Int) * b.natAbs / 18446744073709551616 * 18446744073709551616 + (a.natAbs : Int) * b.natAbs % 18446744073709551616 = (a.natAbs : Int) * b.natAbs by omega)
  have X1 := hid (show U64 ((a.natAbs : Int) * b.natAbs / 18446744073709551616) from ⟨by omega, by omega⟩)
  have X2 := hid (show U64 ((a.natAbs : Int) * b.natAbs % 18446744073709551616) from ⟨by omega, by omega⟩)
  have B0 := hid ((Below.refl w.heap.size w).alloc (Nat.le_refl _) (.cells #[.int .i64 0, .int .u64 0] 24))
  go_enter Tryd.func22, Tryd.ntmps22
  go_wp2_with fail
  refine (wideSize_any a _ H1.out).mono ?_; rintro e w' ⟨rfl, rfl⟩
  go_wp2_with fail
  refine (wideSize_any b _ H2.out).mono ?_; rintro e w' ⟨rfl, rfl⟩
  go_wp2_with fail
  refine (mul64_any _ _ _ U1.out U2.out).mono ?_; rintro e w' ⟨rfl, rfl⟩
  go_wp2_with fail
  replace P2 := hid (show (if (!(decide (a < 0) == decide (b < 0))) = true then -((a.natAbs : Int) * b.natAbs) else (a.natAbs : Int) * b.natAbs) = a * b from P2.out)
  generalize (!(decide (a < 0) == decide (b < 0))) = ng at *
  refine (signed_any _ _ ng _ X1.out X2.out (by rw [SB.out]; split <;> omega)).mono ?_
  rw [SB.out, P2.out]
  unfold wideV
  generalize hp : a * b / 18446744073709551616 = p
  generalize hq : a * b % 18446744073709551616 = q
  have HP := hid hp
  have HQ := hid hq
  clear hp hq
  rintro e w1 ⟨rfl, b1⟩
  have B := hid ((Blks.nil w).add (.cells #[.int .i64 0, .int .u64 0] 24) |>.below b1)
  clear b1
  obtain ⟨r0, r1⟩ := B.out.c2 mem0
  have z0 := B.out.fz mem0 0
  have z1 := B.out.fz mem0 1
  go_wp2_with fail
  exact bodyPost_ret (v := .agg #[.int .i64 p, .int .u64 q]) (by simp [results, Tryd.results22, go_sem, r0, r1]) rfl ⟨congrArg Ending.returned (wideV_of HP.out.symm HQ.out.symm), below_set2 B.out.bel (by omega) _ _⟩
end Go.Proofs.YtjhekggeofalfaaDoor
