/- Contracts of package safe: what each call returns, for every input that fits its kind. The world is as it was. -/
import Derived.Test.YtjhekggeofalfaaBits
namespace Go.Proofs.Ytjhekggeofalfaa
open Go.RowKit


set_option maxHeartbeats 400000 in
theorem safeSize_any (a : Int) (w : World) (h : Fits a) :
    Calls Try.prog 74 #[.int .i64 a] w fun e w' => e = .returned (.int .u64 a.natAbs) ∧ w = w' := by
  obtain ⟨h1, h2⟩ := h
  by_cases ha : a < 0
  · go_enter Try.func74, Try.ntmps74
    go_wp2
    go_ret
    exact ⟨ret1 (by rw [u64_wrap, u64_wrap]; omega), rfl⟩
  · go_enter Try.func74, Try.ntmps74
    go_wp2
    go_ret
    exact ⟨ret1 (by omega), rfl⟩

/-- The number of this size and sign, if it fits. -/
def signedOf (n : Int) (neg : Bool) : Int := if neg then -n else n
set_option maxHeartbeats 400000 in
theorem safeSigned_any (n : Int) (b : Bool) (w : World) (h : U64 n) :
    Calls Try.prog 75 #[.int .u64 n, .bool b] w fun e w' =>
      e = .returned (.tuple #[.int .i64 (sat (signedOf n b)), .int .i64 (err (signedOf n b))]) ∧ w = w' := by
  obtain ⟨h1, h2⟩ := h
  cases b
  · by_cases c : 9223372036854775807 < n
    · have nf : ¬ Fits (signedOf n false) := by unfold Fits signedOf; simp; omega
      rw [sat_no nf, err_no nf]
      clear nf
      go_enter Try.func75, Try.ntmps75
      go_wp2
      go_ret2
      exact ⟨rfl, rfl⟩
    · have nf : Fits (signedOf n false) := by unfold Fits signedOf; simp; omega
      rw [sat_yes nf, err_yes nf]
      clear nf
      go_enter Try.func75, Try.ntmps75
      go_wp2
      go_ret2
      exact ⟨ret2 rfl rfl, rfl⟩
  · by_cases c : 9223372036854775808 < n
    · have nf : ¬ Fits (signedOf n true) := by unfold Fits signedOf; simp; omega
      rw [sat_no nf, err_no nf]
      clear nf
      go_enter Try.func75, Try.ntmps75
      go_wp2
      go_ret2
      exact ⟨rfl, rfl⟩
    · have nf : Fits (signedOf n true) := by unfold Fits signedOf; simp; omega
      rw [sat_yes nf, err_yes nf]
      clear nf
      go_enter Try.func75, Try.ntmps75
      go_wp2
      go_ret2
      exact ⟨ret2 (by unfold signedOf; rw [u64_wrap]; unfold wrap64; simp; omega) rfl, rfl⟩

set_option maxHeartbeats 400000 in
theorem safeAdd_any (a b : Int) (w : World) (ha : Fits a) (hb : Fits b) :
    Calls Try.prog 50 #[.int .i64 a, .int .i64 b] w fun e w' =>
      e = .returned (.tuple #[.int .i64 (sat (a + b)), .int .i64 (err (a + b))]) ∧ w = w' := by
  have o := add_over ha hb
  by_cases f : Fits (a + b)
  · have e := hid (wrap64_fits f)
    rw [sat_yes f, err_yes f]
    have no : ¬ bits .and .i64 (bits .xor .i64 a (wrap64 (a + b))) (bits .xor .i64 b (wrap64 (a + b))) < 0 := by rw [o]; exact fun h => h f
    clear o f
    go_enter Try.func50, Try.ntmps50
    go_wp2
    go_ret2
    exact ⟨ret2 e.out rfl, rfl⟩
  · rw [sat_no f, err_no f]
    have yes : bits .and .i64 (bits .xor .i64 a (wrap64 (a + b))) (bits .xor .i64 b (wrap64 (a + b))) < 0 := by rw [o]; exact f
    clear o f
    go_enter Try.func50, Try.ntmps50
    go_wp2
    go_ret2
    exact ⟨rfl, rfl⟩

set_option maxHeartbeats 400000 in
theorem safeSub_any (a b : Int) (w : World) (ha : Fits a) (hb : Fits b) :
    Calls Try.prog 51 #[.int .i64 a, .int .i64 b] w fun e w' =>
      e = .returned (.tuple #[.int .i64 (sat (a - b)), .int .i64 (err (a - b))]) ∧ w = w' := by
  have o := sub_over ha hb
  by_cases f : Fits (a - b)
  · have e := hid (wrap64_fits f)
    rw [sat_yes f, err_yes f]
    have no : ¬ bits .and .i64 (bits .xor .i64 a b) (bits .xor .i64 a (wrap64 (a - b))) < 0 := by rw [o]; exact fun h => h f
    clear o f
    go_enter Try.func51, Try.ntmps51
    go_wp2
    go_ret2
    exact ⟨ret2 e.out rfl, rfl⟩
  · rw [sat_no f, err_no f]
    have yes : bits .and .i64 (bits .xor .i64 a b) (bits .xor .i64 a (wrap64 (a - b))) < 0 := by rw [o]; exact f
    clear o f
    go_enter Try.func51, Try.ntmps51
    go_wp2
    go_ret2
    exact ⟨rfl, rfl⟩

theorem natAbs_mul_eq (a b : Int) : (a.natAbs : Int) * (b.natAbs : Int) = ((a * b).natAbs : Int) := by rw [Int.natAbs_mul]; simp
theorem natAbs_u64 {a : Int} (h : Fits a) : U64 (a.natAbs : Int) := by obtain ⟨h1, h2⟩ := h; exact ⟨by omega, by omega⟩
theorem sign_mul (a b : Int) : signedOf ((a * b).natAbs : Int) (!(decide (a < 0) == decide (b < 0))) = a * b := by
  unfold signedOf
  rcases Int.lt_trichotomy a 0 with ha | ha | ha <;> rcases Int.lt_trichotomy b 0 with hb | hb | hb
  · have : 0 < a * b := Int.mul_pos_of_neg_of_neg ha hb
    simp [ha, hb]; omega
  · subst hb; simp
  · have : a * b < 0 := Int.mul_neg_of_neg_of_pos ha hb
    have n : ¬ b < 0 := by omega
    simp [ha, n]; omega
  · subst ha; simp
  · subst ha; simp
  · subst ha; simp
  · have : a * b < 0 := Int.mul_neg_of_pos_of_neg ha hb
    have n : ¬ a < 0 := by omega
    simp [hb, n]; omega
  · subst hb; simp
  · have : 0 < a * b := Int.mul_pos ha hb
    have n : ¬ a < 0 := by omega
    have n' : ¬ b < 0 := by omega
    simp [n, n']; omega

set_option maxHeartbeats 400000 in
theorem safeMul_any (a b : Int) (w : World) (ha : Fits a) (hb : Fits b) :
    Calls Try.prog 52 #[.int .i64 a, .int .i64 b] w fun e w' =>
      e = .returned (.tuple #[.int .i64 (sat (a * b)), .int .i64 (err (a * b))]) ∧ w = w' := by
  have hs := sign_mul a b
  have hm := natAbs_mul_eq a b
  generalize hp : a * b = p at *
  have HS := hid hs
  have HM := hid hm
  clear hs hm hp
  by_cases c : (p.natAbs : Int) < 18446744073709551616
  · go_enter Try.func52, Try.ntmps52
    go_wp2_with fail
    refine (safeSize_any a _ ha).mono ?_; rintro e w' ⟨rfl, rfl⟩
    go_wp2_with fail
    refine (safeSize_any b _ hb).mono ?_; rintro e w' ⟨rfl, rfl⟩
    go_wp2_with fail
    refine (mul64_any _ _ _ (natAbs_u64 ha) (natAbs_u64 hb)).mono ?_; rintro e w' ⟨rfl, rfl⟩
    rw [HM.out]
    have z0 : (p.natAbs : Int) / 18446744073709551616 = 0 := by omega
    have z1 : (p.natAbs : Int) % 18446744073709551616 = p.natAbs := by omega
    rw [z0, z1]
    clear z0 z1
    go_wp2_with fail
    refine (safeSigned_any _ _ _ ⟨by omega, by omega⟩).mono ?_; rintro e w' ⟨rfl, rfl⟩
    rw [HS.out]
    go_wp2
    go_ret2
    exact ⟨rfl, rfl⟩
  · have nf : ¬ Fits p := by unfold Fits; omega
    rw [sat_no nf, err_no nf]
    clear nf
    go_enter Try.func52, Try.ntmps52
    go_wp2_with fail
    refine (safeSize_any a _ ha).mono ?_; rintro e w' ⟨rfl, rfl⟩
    go_wp2_with fail
    refine (safeSize_any b _ hb).mono ?_; rintro e w' ⟨rfl, rfl⟩
    go_wp2_with fail
    refine (mul64_any _ _ _ (natAbs_u64 ha) (natAbs_u64 hb)).mono ?_; rintro e w' ⟨rfl, rfl⟩
    rw [HM.out]
    have z0 : 1 ≤ (p.natAbs : Int) / 18446744073709551616 := by omega
    generalize (p.natAbs : Int) / 18446744073709551616 = hi at *
    generalize (p.natAbs : Int) % 18446744073709551616 = lo at *
    have z2 : (hi != 0) = true := by rw [bne_iff_ne]; omega
    go_wp2
    go_ret2
    exact ⟨rfl, rfl⟩

set_option maxHeartbeats 400000 in
theorem safeClamp_any (a b c : Int) (w : World) :
    Calls Try.prog 54 #[.int .i64 a, .int .i64 b, .int .i64 c] w fun e w' => e = .returned (.int .i64 (min (max a b) c)) ∧ w = w' := by
  go_enter Try.func54, Try.ntmps54
  go_wp2
  all_goals (go_ret; exact ⟨ret1 (by omega), rfl⟩)
end Go.Proofs.Ytjhekggeofalfaa
