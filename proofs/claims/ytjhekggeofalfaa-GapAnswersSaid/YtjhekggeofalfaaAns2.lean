/- noonmarklaw03.GapAnswers, where the gap is right. -/
import Derived.Test.YtjhekggeofalfaaAns
import Derived.Test.YtjhekggeofalfaaTame
namespace Go.Proofs.Ytjhekggeofalfaa
open Go.RowKit

theorem u64_diff {lo hi : Int} (h1 : Fits lo) (h2 : Fits hi) (h : lo ≤ hi) : IntKind.u64.wrap (IntKind.u64.wrap hi - IntKind.u64.wrap lo) = hi - lo := by
  obtain ⟨a1, a2⟩ := h1; obtain ⟨b1, b2⟩ := h2
  simp only [u64_wrap]; omega
theorem within_ways (lo hi a b : Int) (h : lo ≤ hi) : (a ≤ lo ∧ hi ≤ b ∧ withinOf lo hi a b = true) ∨ (a ≤ lo ∧ b < hi ∧ decide (hi ≤ b) = false ∧ withinOf lo hi a b = false) ∨ (lo < a ∧ withinOf lo hi a b = false) := by
  by_cases h1 : a ≤ lo
  · by_cases h2 : hi ≤ b
    · exact .inl ⟨h1, h2, by simp [withinOf, h, h1, h2]⟩
    · exact .inr (.inl ⟨h1, by omega, decide_eq_false h2, by simp [withinOf, h2]⟩)
  · exact .inr (.inr ⟨by omega, by simp [withinOf, h1]⟩)
theorem has_ways (lo hi x : Int) : (lo ≤ x ∧ x ≤ hi ∧ hasOf lo hi x = true) ∨ (lo ≤ x ∧ decide (x ≤ hi) = false ∧ hasOf lo hi x = false) ∨ (x < lo ∧ decide (x ≥ lo) = false ∧ hasOf lo hi x = false) := by
  by_cases h1 : lo ≤ x
  · by_cases h2 : x ≤ hi
    · exact .inl ⟨h1, h2, by simp [hasOf, h1, h2]⟩
    · exact .inr (.inl ⟨h1, decide_eq_false h2, by simp [hasOf, h2]⟩)
  · exact .inr (.inr ⟨by omega, decide_eq_false h1, by simp [hasOf, h1]⟩)

set_option maxRecDepth 100000 in
set_option maxHeartbeats 60000000 in
theorem ans_yes (lo hi a b x y : Int) (w : World) (h1 : Fits lo) (h2 : Fits hi) (h3 : Fits a) (h4 : Fits b) (h5 : Fits x) (h6 : Fits y) (h : lo ≤ hi) :
    Calls Try.prog 3 #[gapV lo hi, gapV a b, .int .i64 x, .int .i64 y] w fun e w' => e = .returned (.bool true) ∧ Below w.heap.size w w' := by
  have H1 := hid h1
  have H2 := hid h2
  have H3 := hid h3
  have H4 := hid h4
  have H5 := hid h5
  have H6 := hid h6
  have hle := h
  clear h1 h2 h3 h4 h5 h6 h
  go_enter Try.func3, Try.ntmps3
  go_wp2_with fail
  refine calls_blks w [(w.heap.size + 1, .cells #[.int .i64 a, .int .i64 b] 23), (w.heap.size, .cells #[.int .i64 lo, .int .i64 hi] 23)] (Blks.two w _ _) ?_
  intro W0 B0
  have B0 := hid B0
  refine (alive03_any _).mono ?_
  rintro e w1 ⟨rfl, b1⟩
  have B1 := hid (B0.out.below b1)
  clear b1
  obtain ⟨c0, c1⟩ := B1.out.c2 mem1
  go_wp2_with fail
  refine (gapNew_any lo hi _).mono ?_
  rw [decide_eq_true hle, newLo, newHi, if_pos hle, if_pos hle]
  rintro e w2 ⟨rfl, b2⟩
  have B2 := hid (B1.out.below b2)
  clear b2
  clear c0 c1
  obtain ⟨c0, c1⟩ := (B2.out.add (.cells #[.int .i64 lo, .int .i64 hi] 23)).c2 mem2
  go_wp2_with fail
  refine (gapShift_any lo hi x _ H1.out H2.out H5.out).mono ?_
  generalize sl0 : shLo lo hi x = sl
  generalize sh0 : shHi lo hi x = sh
  generalize se0 : shErr lo hi x = se
  have sl0 := hid sl0
  have sh0 := hid sh0
  have se0 := hid se0
  rintro e w3 ⟨rfl, b3⟩
  have B3 := hid ((B2.out.add _).below b3)
  clear b3
  clear c0 c1
  obtain ⟨c0, c1⟩ := (B3.out.add (.cells #[.int .i64 sl, .int .i64 sh] 23)).c2 mem3
  go_wp2_with fail
  refine (gapGrow_any lo hi x y _ H1.out H2.out H5.out H6.out).mono ?_
  generalize gl0 : grLo lo hi x y = gl
  generalize gh0 : grHi lo hi x y = gh
  generalize ge0 : grErr lo hi x y = ge
  have gl0 := hid gl0
  have gh0 := hid gh0
  have ge0 := hid ge0
  rintro e w4 ⟨rfl, b4⟩
  have B4 := hid ((B3.out.add _).below b4)
  clear b4
  clear c0 c1
  obtain ⟨c0, c1⟩ := (B4.out.add (.cells #[.int .i64 gl, .int .i64 gh] 23)).c2 mem4
  go_wp2_with fail
  refine (lawOf_any lo hi _).mono ?_
  rintro e w5 ⟨rfl, b5⟩
  have B5 := hid ((B4.out.add _).below b5)
  clear b5
  clear c0 c1
  obtain ⟨c0, c1⟩ := B5.out.c2 mem4
  go_wp2_with fail
  refine (refShift_any lo hi x _ H1.out H2.out H5.out).mono ?_
  rw [sl0.out, sh0.out, se0.out]
  rintro e w6 ⟨rfl, b6⟩
  have B6 := hid (B5.out.below b6)
  clear b6
  clear c0 c1
  obtain ⟨c0, c1⟩ := (B6.out.add (.cells #[.int .i64 sl, .int .i64 sh] 31)).c2 mem5
  go_wp2_with fail
  refine (lawOf_any lo hi _).mono ?_
  rintro e w7 ⟨rfl, b7⟩
  have B7 := hid ((B6.out.add _).below b7)
  clear b7
  clear c0 c1
  obtain ⟨c0, c1⟩ := B7.out.c2 mem5
  go_wp2_with fail
  refine (refGrow_any lo hi x y _ H1.out H2.out H5.out H6.out).mono ?_
  rw [gl0.out, gh0.out, ge0.out]
  rintro e w8 ⟨rfl, b8⟩
  have B8 := hid (B7.out.below b8)
  clear b8
  clear c0 c1
  obtain ⟨c0, c1⟩ := (B8.out.add (.cells #[.int .i64 gl, .int .i64 gh] 31)).c2 mem6
  go_wp2_with fail
  clear c0 c1 sl0 sh0 se0 gl0 gh0 ge0
  refine wp_blks w _ (B8.out.add (.cells #[.int .i64 gl, .int .i64 gh] 31)) ?_
  clear B0 B1 B2 B3 B4 B5 B6 B7 B8
  intro W B
  have B := hid B

  generalize w8.heap.size = p8 at *
  generalize w6.heap.size = p6 at *
  generalize w4.heap.size = p4 at *
  generalize w3.heap.size = p3 at *
  generalize w2.heap.size = p2 at *
  obtain ⟨L, hL, B⟩ := B.out.letter
  have ne := Wd.some_ B.out
  obtain ⟨a0, a1⟩ := Wd.k2 (w := w) hL mem6
  obtain ⟨b0, b1⟩ := Wd.k2 (w := w) hL mem5
  obtain ⟨n0, n1⟩ := Wd.k2 (w := w) hL mem4
  obtain ⟨s0, s1⟩ := Wd.k2 (w := w) hL mem3
  obtain ⟨g0, g1⟩ := Wd.k2 (w := w) hL mem2
  obtain ⟨r0, r1⟩ := Wd.k2 (w := w) hL mem1
  obtain ⟨q0, q1⟩ := Wd.k2 (w := w) hL mem0
  refine wp_region_tame w L B.out (by kernel_rfl) (by kernel_rfl) ?_
  repeat (go_big_quiet_step (first
    | (go_at_call 21; exact Calls.tame ((gapRight_any lo hi _).mono (by rw [decide_eq_true hle]; exact fun _ _ h => h)))
    | (go_at_call 19; exact Calls.tame (lawOf_any _ _ _))
    | (go_at_call 22; exact Calls.tame (gapMid_any lo hi _ H1.out H2.out))
    | (go_at_call 23; exact Calls.tame (refMid_any lo hi _ H1.out H2.out))))
  refine wpQuiet_nil (wd_all ?_)
  intro W1 B1
  have B1 := hid B1
  clear B
  have D := hid (u64_diff H1.out H2.out hle)
  obtain ⟨c0, c1⟩ := B1.out.c2 (by rw [hL.out]; exact mem6)
  obtain ⟨c2, c3⟩ := B1.out.c2 (by rw [hL.out]; exact mem5)
  rcases within_ways lo hi a b hle with ⟨i1, i2, wi⟩ | ⟨i1, i2, i3, wi⟩ | ⟨i1, wi⟩
  all_goals
    have WI := hid wi
    clear wi
    go_wp2_with fail
    rcases has_ways lo hi x with ⟨k1, k2, ha⟩ | ⟨k1, k2, ha⟩ | ⟨k1, k2, ha⟩
    all_goals
      have HA := hid ha
      have D := D.out
      clear ha c0 c1 c2 c3
      refine wp_region_tame w L B1.out (by kernel_rfl) (by kernel_rfl) ?_
      repeat (go_big_quiet_step (first
        | (go_at_call 24; exact Calls.tame ((gapHas_any lo hi x _).mono (by rw [HA.out]; exact fun _ _ h => h)))
        | (go_at_call 25; exact Calls.tame ((gapWithin_any lo hi a b _).mono (by rw [WI.out]; exact fun _ _ h => h)))
        | (go_at_call 26; exact Calls.tame ((gapWidth_any lo hi _ H1.out H2.out).mono (by rw [show widthOf lo hi = hi - lo by rw [widthOf, if_pos hle]]; exact fun _ _ h => h)))))
      refine wpQuiet_nil (wd_all ?_)
      intro W2 B2
      have B2 := hid B2
      go_wp2_with fail
      go_ret
      exact ⟨rfl, B2.out.bel⟩
end Go.Proofs.Ytjhekggeofalfaa
