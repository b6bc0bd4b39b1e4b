/- Contracts of package gap and of noonmarkref03: Width, Mid, Shift, Grow. -/
import Derived.Test.YtjhekggeofalfaaGap
namespace Go.Proofs.Ytjhekggeofalfaa
open Go.RowKit

set_option maxHeartbeats 1000000 in
theorem gapWidth_any (lo hi : Int) (w : World) (h1 : Fits lo) (h2 : Fits hi) :
    Calls Try.prog 26 #[gapV lo hi] w fun e w' => e = .returned (.int .u64 (widthOf lo hi)) ∧ Below w.heap.size w w' := by
  obtain ⟨a1, a2⟩ := h1
  obtain ⟨b1, b2⟩ := h2
  by_cases h : lo ≤ hi
  · rw [widthOf, if_pos h]
    go_enter Try.func26, Try.ntmps26
    go_wp2
    go_ret
    refine ⟨ret1 (by simp only [u64_wrap]; omega), ?_⟩
    exact ((Below.refl _ _).alloc (Nat.le_refl _) _).alloc (by simp) _
  · rw [widthOf, if_neg h]
    go_enter Try.func26, Try.ntmps26
    go_wp2
    go_ret
    exact ⟨rfl, ((Below.refl _ _).alloc (Nat.le_refl _) _).alloc (by simp) _⟩
set_option maxHeartbeats 1000000 in
theorem gapMid_any (lo hi : Int) (w : World) (h1 : Fits lo) (h2 : Fits hi) :
    Calls Try.prog 22 #[gapV lo hi] w fun e w' => e = .returned (.int .i64 (midOf lo hi)) ∧ Below w.heap.size w w' := by
  have M := hid (mid_eq h1 h2)
  clear h1 h2
  by_cases h : lo ≤ hi
  · rw [midOf, if_pos h]
    go_enter Try.func22, Try.ntmps22
    go_wp2
    go_ret
    exact ⟨ret1 M.out, ((Below.refl _ _).alloc (Nat.le_refl _) _).alloc (by simp) _⟩
  · rw [midOf, if_neg h]
    go_enter Try.func22, Try.ntmps22
    go_wp2
    go_ret
    exact ⟨rfl, ((Below.refl _ _).alloc (Nat.le_refl _) _).alloc (by simp) _⟩
theorem sum_mid {lo hi : Int} (h1 : Fits lo) (h2 : Fits hi) : Fits ((lo + hi) / 2) := by
  obtain ⟨a1, a2⟩ := h1; obtain ⟨b1, b2⟩ := h2; exact ⟨by omega, by omega⟩

set_option maxRecDepth 20000 in
set_option maxHeartbeats 1000000 in
theorem refMid_any (lo hi : Int) (w : World) (h1 : Fits lo) (h2 : Fits hi) :
    Calls Try.prog 23 #[gapV lo hi] w fun e w' => e = .returned (.int .i64 (midOf lo hi)) ∧ Below w.heap.size w w' := by
  have H1 := hid h1
  have H2 := hid h2
  clear h1 h2
  by_cases h : lo ≤ hi
  · rw [midOf, if_pos h]
    go_enter Try.func23, Try.ntmps23
    go_wp2_with (go_at_call 44; go_in)
    refine calls_blks w [(w.heap.size, .cells #[.int .i64 lo, .int .i64 hi] 31)] (((Blks.nil w).add _).keep _) ?_
    intro W0 B0
    have B0 := hid B0
    refine (of_any 2 _ ⟨by decide, by decide⟩).mono ?_
    rintro e w1 ⟨v1, rfl, n1, b1⟩
    have N1 := hid n1
    have B1 := hid (B0.out.below b1)
    clear b1
    obtain ⟨s1, d1, rfl, h1, -, -⟩ := n1
    obtain ⟨A1, k1, rfl, -⟩ := h1
    generalize d1.length = l1 at *
    go_wp2_with fail
    refine wp_world (fun W => Blks w W [(w1.heap.size, .cells #[.bool (decide ((2 : Int) < 0)), .slice A1 l1 k1] 85), (w.heap.size, .cells #[.int .i64 lo, .int .i64 hi] 31)] ∧ NumIs W (.agg #[.bool (decide ((2 : Int) < 0)), .slice A1 l1 k1]) 2) ⟨B1.out.add _, N1.out.alloc _⟩ ?_
    rintro W ⟨B, N⟩
    have B := hid B
    have N := hid N
    have K := hid (fun W' (h : Blks w W' [(w1.heap.size, .cells #[.bool (decide ((2 : Int) < 0)), .slice A1 l1 k1] 85), (w.heap.size, .cells #[.int .i64 lo, .int .i64 hi] 31)]) =>
      show W'.cell? ⟨w.heap.size, 0, none⟩ = some (.int .i64 lo) ∧ W'.cell? ⟨w.heap.size, 1, none⟩ = some (.int .i64 hi) ∧ W'.cell? ⟨w1.heap.size, 0, none⟩ = some (.bool (decide ((2 : Int) < 0))) ∧ W'.cell? ⟨w1.heap.size, 1, none⟩ = some (.slice A1 l1 k1) from
        ⟨(h.c2 mem1).1, (h.c2 mem1).2, (h.c2 mem0).1, (h.c2 mem0).2⟩)
    obtain ⟨c0, c1, c2, c3⟩ := K.out _ B.out
    go_region_held3 (fun W' => W'.cell? ⟨w.heap.size, 0, none⟩ = some (.int .i64 lo) ∧ W'.cell? ⟨w.heap.size, 1, none⟩ = some (.int .i64 hi) ∧ W'.cell? ⟨w1.heap.size, 0, none⟩ = some (.bool (decide ((2 : Int) < 0))) ∧ W'.cell? ⟨w1.heap.size, 1, none⟩ = some (.slice A1 l1 k1))
      (first | with_reducible exact K.out _ B.out | with_reducible exact K.out _ B.out.drew | with_reducible exact K.out _ B2.out | with_reducible exact K.out _ B3.out | with_reducible exact K.out _ B4.out | with_reducible exact K.out _ B5.out | with_reducible exact K.out _ B6.out)
      (first | (go_at_call 57; have _t := B2.out.bel; refine (of_any _ _ (by first | exact H1.out | exact H2.out)).mono ?_; clear _t; rintro e w3 ⟨v3, rfl, n3, b3⟩; have N3 := hid n3; have B3 := hid (B2.out.below b3); have M3 := hid (M2.out.below b3); have O3 := hid (N2.out.below b3); clear n3 b3) | (go_at_call 57; refine (of_any _ _ (by first | exact H1.out | exact H2.out)).mono ?_; rintro e w2 ⟨v2, rfl, n2, b2⟩; have N2 := hid n2; have B2 := hid (B.out.drew.below b2); have M2 := hid (N.out.drew.below b2); clear n2 b2) | (go_at_call 60; refine (add_any v2 v3 lo hi _ O3.out N3.out H1.out.small H2.out.small).mono ?_; rintro e w4 ⟨v4, rfl, n4, b4⟩; have N4 := hid n4; have B4 := hid (B3.out.below b4); have M4 := hid (M3.out.below b4); clear n4 b4) | (go_at_call 59; refine (div_any v4 _ (lo + hi) 2 false _ N4.out M4.out (Small.add H1.out H2.out) (small_of (by decide)) (by decide)).mono ?_; rintro e w5 ⟨v5, rfl, n5, b5⟩; have N5 := hid n5; have B5 := hid (B4.out.below b5); clear n5 b5) | (go_at_call 58; refine (long_any v5 _ _ N5.out (show Small ((lo + hi) / 2) from (sum_mid H1.out H2.out).small)).mono ?_; rintro e w6 ⟨rfl, b6⟩; have B6 := hid (B5.out.below b6); clear b6))
    go_wp2_with fail
    go_ret
    exact ⟨ret1 (longV_yes (sum_mid H1.out H2.out)), B6.out.bel⟩
  · rw [midOf, if_neg h]
    go_enter Try.func23, Try.ntmps23
    go_wp2
    go_ret
    exact ⟨rfl, ((Below.refl _ _).alloc (Nat.le_refl _) _).alloc (by simp) _⟩

end Go.Proofs.Ytjhekggeofalfaa
