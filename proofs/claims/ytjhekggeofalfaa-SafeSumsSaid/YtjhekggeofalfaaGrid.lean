/- Contracts of package grid and of noonmarkref19: what is a grid, New, Window. -/
import Derived.Test.YtjhekggeofalfaaMul
import Derived.Test.YtjhekggeofalfaaGap2
namespace Go.Proofs.Ytjhekggeofalfaa
open Go.RowKit

/-! ### What they answer -/
def gOk (wd p mo : Int) : Bool := decide (1 ≤ wd) && (decide (wd ≤ 1099511627776) && (decide (0 ≤ p) && (decide (p ≤ 3) && (decide (0 ≤ mo) && decide (mo ≤ 4611686018427387903)))))
theorem gOk_iff {wd p mo : Int} : gOk wd p mo = true ↔ 1 ≤ wd ∧ wd ≤ 1099511627776 ∧ 0 ≤ p ∧ p ≤ 3 ∧ 0 ≤ mo ∧ mo ≤ 4611686018427387903 := by
  simp [gOk]
theorem gOk_ways (wd p mo : Int) : (gOk wd p mo = true ∧ 1 ≤ wd ∧ wd ≤ 1099511627776 ∧ 0 ≤ p ∧ p ≤ 3 ∧ 0 ≤ mo ∧ mo ≤ 4611686018427387903) ∨
    (gOk wd p mo = false ∧ (wd < 1 ∨ (1 ≤ wd ∧ 1099511627776 < wd) ∨ (1 ≤ wd ∧ wd ≤ 1099511627776 ∧ p < 0) ∨ (1 ≤ wd ∧ wd ≤ 1099511627776 ∧ 0 ≤ p ∧ 3 < p) ∨
      (1 ≤ wd ∧ wd ≤ 1099511627776 ∧ 0 ≤ p ∧ p ≤ 3 ∧ mo < 0) ∨ (1 ≤ wd ∧ wd ≤ 1099511627776 ∧ 0 ≤ p ∧ p ≤ 3 ∧ 0 ≤ mo ∧ decide (mo ≤ 4611686018427387903) = false))) := by
  by_cases h : gOk wd p mo = true
  · exact .inl ⟨h, gOk_iff.1 h⟩
  · refine .inr ⟨by simpa using h, ?_⟩
    rw [gOk_iff] at h
    rw [decide_eq_false_iff_not]
    omega
abbrev gridV (wd p mo : Int) : Value := .agg #[.int .i64 wd, .int .i64 p, .int .i64 mo]
def winOf (wd p mo t : Int) : Int := if gOk wd p mo = true then t / wd else 0
def nwOf (wd p mo x : Int) : Int := if gOk wd p mo = true then x else 0
def neOf (wd p mo : Int) : Int := if gOk wd p mo = true then 0 else 11
theorem win_fits {wd p mo t : Int} (h : Fits t) : Fits (winOf wd p mo t) := by
  unfold winOf
  split
  · rename_i g
    obtain ⟨g1, -⟩ := gOk_iff.1 g
    obtain ⟨h1, h2⟩ := h
    have e := Int.mul_ediv_add_emod t wd
    have r0 := Int.emod_nonneg t (show wd ≠ 0 by omega)
    have r1 := Int.emod_lt_of_pos t (show 0 < wd by omega)
    refine ⟨?_, ?_⟩
    · exact Int.le_ediv_of_mul_le (by omega) (by
        have : -9223372036854775808 * wd ≤ -9223372036854775808 * 1 := Int.mul_le_mul_of_nonpos_left (by omega) (by omega)
        omega)
    · by_cases ht : 0 ≤ t
      · exact Int.le_trans (Int.ediv_le_self _ ht) h2
      · have := Int.ediv_neg_of_neg_of_pos (a := t) (b := wd) (by omega) (by omega); omega
  · exact ⟨by decide, by decide⟩

set_option maxRecDepth 20000 in
set_option maxHeartbeats 4000000 in
theorem gridRight_any (wd p mo : Int) (w : World) :
    Calls Try.prog 65 #[gridV wd p mo] w fun e w' => e = .returned (.bool (gOk wd p mo)) ∧ Below w.heap.size w w' := by
  rcases gOk_ways wd p mo with ⟨g, h1, h2, h3, h4, h5, h6⟩ | ⟨g, h1 | ⟨h1, h2⟩ | ⟨h1, h2, h3⟩ | ⟨h1, h2, h3, h4⟩ | ⟨h1, h2, h3, h4, h5⟩ | ⟨h1, h2, h3, h4, h5, h6⟩⟩
  all_goals
    rw [g]
    have G := hid g
    clear g
    go_enter Try.func65, Try.ntmps65
    go_wp2
    go_ret
    exact ⟨rfl, (Below.refl _ _).alloc (Nat.le_refl _) _⟩
set_option maxRecDepth 20000 in
set_option maxHeartbeats 4000000 in
theorem ref19Right_any (wd p mo : Int) (w : World) :
    Calls Try.prog 34 #[gridV wd p mo] w fun e w' => e = .returned (.bool (gOk wd p mo)) ∧ Below w.heap.size w w' := by
  rcases gOk_ways wd p mo with ⟨g, h1, h2, h3, h4, h5, h6⟩ | ⟨g, h1 | ⟨h1, h2⟩ | ⟨h1, h2, h3⟩ | ⟨h1, h2, h3, h4⟩ | ⟨h1, h2, h3, h4, h5⟩ | ⟨h1, h2, h3, h4, h5, h6⟩⟩
  all_goals
    rw [g]
    have G := hid g
    clear g
    go_enter Try.func34, Try.ntmps34
    go_wp2
    go_ret
    exact ⟨rfl, (Below.refl _ _).alloc (Nat.le_refl _) _⟩
set_option maxHeartbeats 1000000 in
theorem lawOf19_any (wd p mo : Int) (w : World) :
    Calls Try.prog 35 #[gridV wd p mo] w fun e w' => e = .returned (gridV wd p mo) ∧ Below w.heap.size w w' := by
  go_enter Try.func35, Try.ntmps35
  go_wp2_with fail
  exact bodyPost_ret (v := gridV wd p mo) (by simp [results, Try.results35, go_sem]) rfl ⟨rfl, ((Below.refl _ _).alloc (Nat.le_refl _) _).alloc (by simp) _⟩
theorem below_set3 {B : Nat} {a W : World} {g : Nat} (h : Below B a W) (hg : B ≤ g) (x y z : Value) : Below B a (((W.setCell ⟨g, 0, none⟩ x).setCell ⟨g, 1, none⟩ y).setCell ⟨g, 2, none⟩ z) :=
  ((h.setCell (p := ⟨g, 0, none⟩) hg x).setCell (p := ⟨g, 1, none⟩) hg y).setCell (p := ⟨g, 2, none⟩) hg z

theorem ret3e {a b c d e f g h : Int} (h1 : a = b) (h2 : c = d) (h3 : e = f) (h4 : g = h) : Ending.returned (.tuple #[.agg #[.int .i64 a, .int .i64 c, .int .i64 e], .int .i64 g]) = .returned (.tuple #[.agg #[.int .i64 b, .int .i64 d, .int .i64 f], .int .i64 h]) := by rw [h1, h2, h3, h4]
set_option maxRecDepth 20000 in
set_option maxHeartbeats 4000000 in
theorem gridNew_any (wd p mo : Int) (w : World) :
    Calls Try.prog 33 #[.int .i64 wd, .int .i64 p, .int .i64 mo] w fun e w' =>
      e = .returned (.tuple #[gridV (nwOf wd p mo wd) (nwOf wd p mo p) (nwOf wd p mo mo), .int .i64 (neOf wd p mo)]) ∧ Below w.heap.size w w' := by
  have HB0 := hid (Blks.two w (.cells #[.int .i64 0, .int .i64 0, .int .i64 0] 53) (.cells #[.int .i64 wd, .int .i64 p, .int .i64 mo] 53))
  go_enter Try.func33, Try.ntmps33
  go_wp2_with fail
  refine (gridRight_any wd p mo _).mono ?_
  generalize hg : gOk wd p mo = ok
  have G := hid hg
  clear hg
  rintro e w1 ⟨rfl, b1⟩
  have B := hid (HB0.out.below b1)
  clear b1 HB0
  obtain ⟨a0, a1, a2⟩ := B.out.c3 mem0
  obtain ⟨r0, r1, r2⟩ := B.out.c3 mem1
  have z0 := B.out.fz mem1 0
  have z1 := B.out.fz mem1 1
  have z2 := B.out.fz mem1 2
  cases ok
  · go_wp2_with fail
    exact bodyPost_ret (v := .tuple #[gridV 0 0 0, .int .i64 11]) (by simp [results, Try.results33, go_sem, r0, r1, r2]) rfl ⟨ret3e (by rw [nwOf, G.out]; rfl) (by rw [nwOf, G.out]; rfl) (by rw [nwOf, G.out]; rfl) (by rw [neOf, G.out]; rfl), below_set3 B.out.bel (Nat.le_refl _) _ _ _⟩
  · go_wp2_with fail
    exact bodyPost_ret (v := .tuple #[gridV wd p mo, .int .i64 0]) (by simp [results, Try.results33, go_sem, r0, r1, r2]) rfl ⟨ret3e (by rw [nwOf, G.out]; rfl) (by rw [nwOf, G.out]; rfl) (by rw [nwOf, G.out]; rfl) (by rw [neOf, G.out]; rfl), below_set3 B.out.bel (Nat.le_refl _) _ _ _⟩

theorem tdiv_neg {t d : Int} (ht : t < 0) (hd : 1 ≤ d) :
    (t.tmod d < 0 ∧ t / d = t.tdiv d - 1 ∧ t.tdiv d ≤ 0 ∧ t < t.tdiv d) ∨ (¬ t.tmod d < 0 ∧ t / d = t.tdiv d ∧ t.tdiv d ≤ 0 ∧ t ≤ t.tdiv d) := by
  obtain ⟨s, rfl⟩ : ∃ s : Int, t = -s := ⟨-t, by omega⟩
  rw [Int.neg_tdiv, Int.neg_tmod, Int.tdiv_eq_ediv_of_nonneg (by omega), Int.tmod_eq_emod_of_nonneg (by omega)]
  have e := Int.mul_ediv_add_emod s d
  have r0 := Int.emod_nonneg s (show d ≠ 0 by omega)
  have r1 := Int.emod_lt_of_pos s (show 0 < d by omega)
  have q0 := Int.ediv_nonneg (a := s) (b := d) (by omega) (by omega)
  have q1 := Int.ediv_le_self d (show 0 ≤ s by omega)
  have key : ∀ q r : Int, -s = d * q + r → 0 ≤ r → r < d → -s / d = q := fun q r h h0 h1 => by
    rw [h, Int.mul_comm, Int.add_comm, Int.add_mul_ediv_right _ _ (by omega), Int.ediv_eq_zero_of_lt h0 h1]; omega
  by_cases h : s % d = 0
  · exact .inr ⟨by omega, key _ 0 (by rw [Int.mul_neg]; omega) (by omega) (by omega), by omega, by omega⟩
  · have q2 : 1 * (s / d) ≤ d * (s / d) := Int.mul_le_mul_of_nonneg_right hd q0
    exact .inl ⟨by omega, key _ (d - s % d) (by rw [Int.mul_sub, Int.mul_neg]; omega) (by omega) (by omega), by omega, by omega⟩

set_option maxRecDepth 20000 in
set_option maxHeartbeats 4000000 in
theorem gridWindow_any (wd p mo t : Int) (w : World) (ht : Fits t) :
    Calls Try.prog 41 #[gridV wd p mo, .int .i64 t] w fun e w' => e = .returned (.int .i64 (winOf wd p mo t)) ∧ Below w.heap.size w w' := by
  have HT := hid ht
  clear ht
  have HB0 := hid ((Blks.nil w).add (.cells #[.int .i64 wd, .int .i64 p, .int .i64 mo] 53))
  go_enter Try.func41, Try.ntmps41
  go_wp2_with fail
  refine (gridRight_any wd p mo _).mono ?_
  rcases gOk_ways wd p mo with ⟨g, h1, h2, -⟩ | ⟨g, -⟩
  · rw [g]
    have W0 := hid (show winOf wd p mo t = t / wd by rw [winOf, if_pos g])
    clear g
    rintro e w1 ⟨rfl, b1⟩
    have B := hid (HB0.out.below b1)
    clear b1 HB0
    obtain ⟨a0, a1, a2⟩ := B.out.c3 mem0
    have t0 := HT.out.lo
    have t1 := HT.out.hi
    by_cases hs : 0 ≤ t
    · have m0 := Int.emod_nonneg t (show wd ≠ 0 by omega)
      go_wp2_with fail
      go_ret
      exact ⟨ret1 W0.out.symm, B.out.bel⟩
    · rcases tdiv_neg (by omega : t < 0) h1 with ⟨k1, k2, k3, k4⟩ | ⟨k1, k2, k3, k4⟩
      · have K2 := hid k2
        clear k2
        go_wp2_with fail
        go_ret
        exact ⟨ret1 (by rw [W0.out, K2.out]), B.out.bel⟩
      · have K2 := hid k2
        clear k2
        go_wp2_with fail
        go_ret
        exact ⟨ret1 (by rw [W0.out, K2.out]), B.out.bel⟩
  · rw [g]
    have W0 := hid (show winOf wd p mo t = 0 by rw [winOf, g]; rfl)
    clear g
    rintro e w1 ⟨rfl, b1⟩
    go_wp2_with fail
    go_ret
    exact ⟨ret1 W0.out.symm, (HB0.out.below b1).bel⟩
end Go.Proofs.Ytjhekggeofalfaa
