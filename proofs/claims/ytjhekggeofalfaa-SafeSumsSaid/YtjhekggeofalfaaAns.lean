/- noonmarklaw03.GapAnswers returns true at every input and writes nothing that was there. -/
import Derived.Test.YtjhekggeofalfaaAlive03
namespace Go.Proofs.Ytjhekggeofalfaa
open Go.RowKit

set_option maxHeartbeats 400000 in
theorem lawOf_any (lo hi : Int) (w : World) :
    Calls Try.prog 19 #[gapV lo hi] w fun e w' => e = .returned (gapV lo hi) ∧ Below w.heap.size w w' := by
  go_enter Try.func19, Try.ntmps19
  go_wp2
  exact bodyPost_ret (v := gapV lo hi) (by simp [results, Try.results19, go_sem]) rfl ⟨rfl, ((Below.refl _ _).alloc (Nat.le_refl _) _).alloc (by simp) _⟩

set_option maxRecDepth 100000 in
set_option maxHeartbeats 8000000 in
theorem ans_no (lo hi a b x y : Int) (w : World) (h1 : Fits lo) (h2 : Fits hi) (h3 : Fits a) (h4 : Fits b) (h5 : Fits x) (h6 : Fits y) (h : ¬ lo ≤ hi) :
    Calls Try.prog 3 #[gapV lo hi, gapV a b, .int .i64 x, .int .i64 y] w fun e w' => e = .returned (.bool true) ∧ Below w.heap.size w w' := by
  have H1 := hid h1
  have H2 := hid h2
  have H3 := hid h3
  have H4 := hid h4
  have H5 := hid h5
  have H6 := hid h6
  skip
  have hlt := Int.not_le.1 h
  clear h1 h2 h3 h4 h5 h6 h
  go_enter Try.func3, Try.ntmps3
  go_wp2_with fail
  refine calls_blks w [(w.heap.size + 1, .cells #[.int .i64 a, .int .i64 b] 23), (w.heap.size, .cells #[.int .i64 lo, .int .i64 hi] 23)] (Blks.two w _ _) ?_
  intro W0 B0
  have B0 := hid B0
  refine (alive03_any _).mono ?_
  rintro e w1 ⟨rfl, b1⟩
  have B1 := hid (B0.out.below b1)
  clear b1
  obtain ⟨c0, c1⟩ := B1.out.c2 mem1
  go_wp2_with fail
  refine (gapNew_any lo hi _).mono ?_
  rw [decide_eq_false (Int.not_le.2 hlt), newLo, newHi, if_neg (Int.not_le.2 hlt), if_neg (Int.not_le.2 hlt)]
  rintro e w2 ⟨rfl, b2⟩
  have B2 := hid (B1.out.below b2)
  clear b2
  clear c0 c1
  obtain ⟨c0, c1⟩ := (B2.out.add (.cells #[.int .i64 0, .int .i64 0] 23)).c2 mem2
  go_wp2_with fail
  refine (gapShift_any lo hi x _ H1.out H2.out H5.out).mono ?_
  generalize sl0 : shLo lo hi x = sl
  generalize sh0 : shHi lo hi x = sh
  generalize se0 : shErr lo hi x = se
  have sl0 := hid sl0
  have sh0 := hid sh0
  have se0 := hid se0
  rintro e w3 ⟨rfl, b3⟩
  have B3 := hid ((B2.out.add _).below b3)
  clear b3
  clear c0 c1
  obtain ⟨c0, c1⟩ := (B3.out.add (.cells #[.int .i64 sl, .int .i64 sh] 23)).c2 mem3
  go_wp2_with fail
  refine (gapGrow_any lo hi x y _ H1.out H2.out H5.out H6.out).mono ?_
  generalize gl0 : grLo lo hi x y = gl
  generalize gh0 : grHi lo hi x y = gh
  generalize ge0 : grErr lo hi x y = ge
  have gl0 := hid gl0
  have gh0 := hid gh0
  have ge0 := hid ge0
  rintro e w4 ⟨rfl, b4⟩
  have B4 := hid ((B3.out.add _).below b4)
  clear b4
  clear c0 c1
  obtain ⟨c0, c1⟩ := (B4.out.add (.cells #[.int .i64 gl, .int .i64 gh] 23)).c2 mem4
  go_wp2_with fail
  refine (lawOf_any lo hi _).mono ?_
  rintro e w5 ⟨rfl, b5⟩
  have B5 := hid ((B4.out.add _).below b5)
  clear b5
  clear c0 c1
  obtain ⟨c0, c1⟩ := B5.out.c2 mem4
  go_wp2_with fail
  refine (refShift_any lo hi x _ H1.out H2.out H5.out).mono ?_
  rw [sl0.out, sh0.out, se0.out]
  rintro e w6 ⟨rfl, b6⟩
  have B6 := hid (B5.out.below b6)
  clear b6
  clear c0 c1
  obtain ⟨c0, c1⟩ := (B6.out.add (.cells #[.int .i64 sl, .int .i64 sh] 31)).c2 mem5
  go_wp2_with fail
  refine (lawOf_any lo hi _).mono ?_
  rintro e w7 ⟨rfl, b7⟩
  have B7 := hid ((B6.out.add _).below b7)
  clear b7
  clear c0 c1
  obtain ⟨c0, c1⟩ := B7.out.c2 mem5
  go_wp2_with fail
  refine (refGrow_any lo hi x y _ H1.out H2.out H5.out H6.out).mono ?_
  rw [gl0.out, gh0.out, ge0.out]
  rintro e w8 ⟨rfl, b8⟩
  have B8 := hid (B7.out.below b8)
  clear b8
  clear c0 c1
  obtain ⟨c0, c1⟩ := (B8.out.add (.cells #[.int .i64 gl, .int .i64 gh] 31)).c2 mem6
  go_wp2_with fail
  clear c0 c1 sl0 sh0 se0 gl0 gh0 ge0 H3 H4 H5 H6
  refine wp_blks w _ (B8.out.add (.cells #[.int .i64 gl, .int .i64 gh] 31)) ?_
  clear B0 B1 B2 B3 B4 B5 B6 B7 B8
  intro W B
  have B := hid B

  generalize w8.heap.size = p8 at *
  generalize w6.heap.size = p6 at *
  generalize w4.heap.size = p4 at *
  generalize w3.heap.size = p3 at *
  generalize w2.heap.size = p2 at *
  have K := hid (fun W' (h : Blks w W' [(p8, .cells #[.int .i64 gl, .int .i64 gh] 31), (p6, .cells #[.int .i64 sl, .int .i64 sh] 31), (p4, .cells #[.int .i64 gl, .int .i64 gh] 23), (p3, .cells #[.int .i64 sl, .int .i64 sh] 23), (p2, .cells #[.int .i64 0, .int .i64 0] 23), (w.heap.size + 1, .cells #[.int .i64 a, .int .i64 b] 23), (w.heap.size, .cells #[.int .i64 lo, .int .i64 hi] 23)]) =>
    show W'.cell? ⟨w.heap.size, 0, none⟩ = some (.int .i64 lo) ∧ W'.cell? ⟨w.heap.size, 1, none⟩ = some (.int .i64 hi) ∧ W'.cell? ⟨p3, 0, none⟩ = some (.int .i64 sl) ∧ W'.cell? ⟨p3, 1, none⟩ = some (.int .i64 sh) ∧ W'.cell? ⟨p4, 0, none⟩ = some (.int .i64 gl) ∧ W'.cell? ⟨p4, 1, none⟩ = some (.int .i64 gh) ∧ W'.cell? ⟨p6, 0, none⟩ = some (.int .i64 sl) ∧ W'.cell? ⟨p6, 1, none⟩ = some (.int .i64 sh) ∧ W'.cell? ⟨p8, 0, none⟩ = some (.int .i64 gl) ∧ W'.cell? ⟨p8, 1, none⟩ = some (.int .i64 gh) from
      ⟨(h.c2 mem6).1, (h.c2 mem6).2, (h.c2 mem3).1, (h.c2 mem3).2, (h.c2 mem2).1, (h.c2 mem2).2, (h.c2 mem1).1, (h.c2 mem1).2, (h.c2 mem0).1, (h.c2 mem0).2⟩)
  obtain ⟨c0, c1, c2, c3, c4, c5, c6, c7, c8, c9⟩ := K.out _ B.out
  go_region_held3 (fun W' => W'.cell? ⟨w.heap.size, 0, none⟩ = some (.int .i64 lo) ∧ W'.cell? ⟨w.heap.size, 1, none⟩ = some (.int .i64 hi) ∧ W'.cell? ⟨p3, 0, none⟩ = some (.int .i64 sl) ∧ W'.cell? ⟨p3, 1, none⟩ = some (.int .i64 sh) ∧ W'.cell? ⟨p4, 0, none⟩ = some (.int .i64 gl) ∧ W'.cell? ⟨p4, 1, none⟩ = some (.int .i64 gh) ∧ W'.cell? ⟨p6, 0, none⟩ = some (.int .i64 sl) ∧ W'.cell? ⟨p6, 1, none⟩ = some (.int .i64 sh) ∧ W'.cell? ⟨p8, 0, none⟩ = some (.int .i64 gl) ∧ W'.cell? ⟨p8, 1, none⟩ = some (.int .i64 gh))
    (first | with_reducible exact K.out _ B.out | with_reducible exact K.out _ B.out.drew)
    (first | (go_at_call 21; refine (gapRight_any lo hi _).mono ?_; rw [decide_eq_false (Int.not_le.2 hlt)]; rintro e v ⟨rfl, b⟩; have B := hid (B.out.drew.below b); clear b) | (go_at_call 19; refine (lawOf_any _ _ _).mono ?_; rintro e v ⟨rfl, b⟩; have B := hid (B.out.below b); clear b) | (go_at_call 22; refine (gapMid_any lo hi _ H1.out H2.out).mono ?_; rintro e v ⟨rfl, b⟩; have B := hid (B.out.below b); clear b) | (go_at_call 23; refine (refMid_any lo hi _ H1.out H2.out).mono ?_; rintro e v ⟨rfl, b⟩; have B := hid (B.out.below b); clear b))
  clear K c0 c1 c2 c3 c4 c5 c6 c7 c8 c9
  obtain ⟨g0, g1⟩ := B.out.c2 mem6
  obtain ⟨n0, n1⟩ := B.out.c2 mem4
  go_wp2_with fail
  refine (gapHas_any lo hi x _).mono ?_
  rw [show hasOf lo hi x = false from (by
    rw [hasOf, Bool.and_eq_false_iff, decide_eq_false_iff_not, decide_eq_false_iff_not]; omega)]
  rintro e u1 ⟨rfl, b⟩
  have B := hid (B.out.below b)
  clear b g0 g1 n0 n1
  obtain ⟨g0, g1⟩ := B.out.c2 mem6
  obtain ⟨n0, n1⟩ := B.out.c2 mem5
  go_wp2_with fail
  refine (gapWithin_any lo hi a b _).mono ?_
  rw [show withinOf lo hi a b = false by rw [withinOf, decide_eq_false (Int.not_le.2 hlt), Bool.false_and]]
  rintro e u2 ⟨rfl, b⟩
  have B := hid (B.out.below b)
  clear b g0 g1 n0 n1
  obtain ⟨g0, g1⟩ := B.out.c2 mem6
  obtain ⟨n0, n1⟩ := B.out.c2 mem5
  go_wp2_with fail
  refine (gapWithin_any a b lo hi _).mono ?_
  rw [show withinOf a b lo hi = false from (by
    rw [withinOf, Bool.and_eq_false_iff, Bool.and_eq_false_iff, decide_eq_false_iff_not, decide_eq_false_iff_not, decide_eq_false_iff_not]; omega)]
  rintro e u3 ⟨rfl, b⟩
  have B := hid (B.out.below b)
  clear b g0 g1 n0 n1
  obtain ⟨g0, g1⟩ := B.out.c2 mem6
  go_wp2_with fail
  refine (gapWidth_any lo hi _ H1.out H2.out).mono ?_
  rw [show widthOf lo hi = 0 by rw [widthOf, if_neg (Int.not_le.2 hlt)]]
  rintro e u4 ⟨rfl, b⟩
  have B := hid (B.out.below b)
  clear b g0 g1
  go_wp2_with fail
  go_ret
  exact ⟨rfl, B.out.bel⟩
end Go.Proofs.Ytjhekggeofalfaa
