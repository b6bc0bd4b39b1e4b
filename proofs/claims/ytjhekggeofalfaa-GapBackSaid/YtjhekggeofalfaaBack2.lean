/- noonmarklaw03.GapBack returns true at every input and writes nothing that was there. -/
import Derived.Test.YtjhekggeofalfaaBack
import Derived.Test.YtjhekggeofalfaaTame
import Derived.Deep.DeepCutAuto
namespace Go.Proofs.Ytjhekggeofalfaa
open Go.RowKit

theorem fits_neg {x : Int} (h : Fits x) (hx : ¬ x ≤ -9223372036854775808) : Fits (-x) := by
  obtain ⟨h1, h2⟩ := h; exact ⟨by omega, by omega⟩
/-- What the test of the first if says. -/
def BackTest (se x : Int) (v : Value) : Prop := (v = .bool true ∧ se = 0 ∧ ¬ x ≤ -9223372036854775808) ∨ v = .bool false

set_option maxRecDepth 100000 in
set_option maxHeartbeats 60000000 in
theorem gapBack_any (a b c d e f x : Int) (w : World) (h1 : Fits a) (h2 : Fits b) (h3 : Fits c) (h4 : Fits d) (h5 : Fits e) (h6 : Fits f) (h7 : Fits x) :
    Calls Try.prog 6 #[gapV a b, gapV c d, gapV e f, .int .i64 x] w fun e w' => e = .returned (.bool true) ∧ Below w.heap.size w w' := by
  have H1 := hid h1
  have H2 := hid h2
  have H3 := hid h3
  have H4 := hid h4
  have H5 := hid h5
  have H6 := hid h6
  have H7 := hid h7
  clear h1 h2 h3 h4 h5 h6 h7
  obtain ⟨m1, m2, m3⟩ := mt_turn (a := (a, b)) (b := (c, d)) (c := (e, f)) H1.out H2.out H3.out H4.out H5.out H6.out
  obtain ⟨u1, u2, u3⟩ := hu_turn (a := (a, b)) (b := (c, d)) (c := (e, f)) H1.out H2.out H3.out H4.out H5.out H6.out
  have m1 := hid m1
  have m2 := hid m2
  have m3 := hid m3
  have u1 := hid u1
  have u2 := hid u2
  have u3 := hid u3
  have MS := hid (mt_steps (a := (a, b)) (b := (c, d)) (c := (e, f)) H1.out H2.out H3.out H4.out H5.out H6.out)
  have MW := hid (mt3 (a := (a, b)) (b := (c, d)) (c := (e, f)) H1.out H2.out H3.out H4.out H5.out H6.out)
  go_enter Try.func6, Try.ntmps6
  go_wp2_with fail
  refine calls_blks w [(w.heap.size + 1 + 1, .cells #[.int .i64 e, .int .i64 f] 23), (w.heap.size + 1, .cells #[.int .i64 c, .int .i64 d] 23), (w.heap.size, .cells #[.int .i64 a, .int .i64 b] 23)] (Blks.three w _ _ _) ?_
  intro W0 B0
  have B := hid B0
  clear B0
  refine (alive03_any _).mono ?_
  rintro r w1 ⟨rfl, t⟩
  replace B := hid (B.out.below t)
  clear t
  obtain ⟨c0, c1⟩ := B.out.c2 mem2
  go_wp2_with fail
  clear c0 c1
  refine (gapShift_any a b x _ H1.out H2.out H7.out).mono ?_
  have SW := hid (shift_ways a b x)
  generalize sl0 : shLo a b x = sl
  generalize sh0 : shHi a b x = sh
  generalize se0 : shErr a b x = se
  have sl0 := hid sl0
  have sh0 := hid sh0
  have se0 := hid se0
  rintro r w2 ⟨rfl, t⟩
  replace B := hid (B.out.below t)
  replace B := hid (B.out.add (.cells #[.int .i64 sl, .int .i64 sh] 23))
  clear t
  go_upto_region 4 with fail
  go_cut [10, 38] (fun u v wr => u = .int .i64 se ∧ BackTest se x v ∧ Blks w wr [(w2.heap.size, .cells #[.int .i64 sl, .int .i64 sh] 23), (w.heap.size + 1 + 1, .cells #[.int .i64 e, .int .i64 f] 23), (w.heap.size + 1, .cells #[.int .i64 c, .int .i64 d] 23), (w.heap.size, .cells #[.int .i64 a, .int .i64 b] 23)])
  case first =>
    by_cases q : se = 0
    · have q1 : (se == 0) = true := beq_iff_eq.2 q
      have q := hid q
      by_cases q2 : x ≤ -9223372036854775808
      · have q3 : decide (-9223372036854775808 < x) = false := decide_eq_false (by omega)
        go_wp2_with fail
        go_meet
        exact ⟨by rw [q.out], .inr rfl, B.out⟩
      · have q3 : decide (-9223372036854775808 < x) = true := decide_eq_true (by omega)
        have q2 := hid q2
        go_wp2_with fail
        go_meet
        exact ⟨by rw [q.out], .inl ⟨rfl, q.out, Int.not_le.2 q2.out⟩, B.out⟩
    · have q1 : (se == 0) = false := beq_eq_false_iff_ne.2 q
      have q := hid q
      go_wp2_with fail
      go_meet
      exact ⟨rfl, .inr rfl, B.out⟩
  case rest =>
    obtain ⟨rfl, bt, B1⟩ := hcut
    have BT := hid bt
    replace B := hid B1
    clear bt B1
    go_upto_if 38 with fail
    go_cut [] (fun wr => Blks w wr [(w.heap.size + 1 + 1, .cells #[.int .i64 e, .int .i64 f] 23), (w.heap.size + 1, .cells #[.int .i64 c, .int .i64 d] 23), (w.heap.size, .cells #[.int .i64 a, .int .i64 b] 23)])
    case first =>
      rcases BT.out with ⟨rfl, q1, q2⟩ | rfl
      · obtain ⟨s0, sr, sf, sg⟩ : shErr a b x = 0 ∧ a ≤ b ∧ Fits (a + x) ∧ Fits (b + x) := by
          rcases SW.out with s0 | s0 | s0
          · exact absurd (se0.out.symm.trans s0) (by omega)
          · exact absurd (se0.out.symm.trans s0) (by omega)
          · exact s0
        obtain ⟨k1, k2, k3⟩ := shift_back (by_ := x) H1.out H2.out sr
        have el : a + x = sl := by rw [← sl0.out, shLo, if_pos s0]
        have eh : b + x = sh := by rw [← sh0.out, shHi, if_pos s0]
        have ws := width_shift a b x
        rw [el, eh] at k1 k2 k3 ws
        rw [el] at sf
        rw [eh] at sg
        generalize wa : widthOf a b = wd at ws
        have K1 := hid k1
        have K2 := hid k2
        have K3 := hid k3
        have WS := hid ws
        have WA := hid wa
        have SF := hid sf
        have SG := hid sg
        have FN := hid (fits_neg H7.out q2)
        clear q1 s0 sr k1 k2 k3 el eh ws wa sf sg BT
        obtain ⟨c0, d0⟩ := B.out.c2 mem0
        go_wp2_with fail
        rw [wrap64_fits FN.out]
        refine (gapShift_any sl sh (-x) _ SF.out SG.out FN.out).mono ?_
        rw [K1.out, K2.out, K3.out]
        rintro r w3 ⟨rfl, t⟩
        replace B := hid (B.out.below t)
        replace B := hid (B.out.add (.cells #[.int .i64 a, .int .i64 b] 23))
        clear t c0 d0
        go_wp2_with fail
        obtain ⟨L, hL, B⟩ := B.out.letter
        have ne := Wd.some_ B.out
        obtain ⟨a0, a1⟩ := Wd.k2 (w := w) hL mem4
        obtain ⟨s0, s1⟩ := Wd.k2 (w := w) hL mem1
        obtain ⟨t0, t1⟩ := Wd.k2 (w := w) hL mem0
        refine wp_region_tame w L B.out (by kernel_rfl) (by kernel_rfl) ?_
        repeat (go_big_quiet_step (first
          | (go_at_call 26; with_reducible exact Calls.tame ((gapWidth_any sl sh _ SF.out SG.out).mono (by rw [WS.out]; exact fun _ _ h => h)))
          | (go_at_call 26; with_reducible exact Calls.tame ((gapWidth_any a b _ H1.out H2.out).mono (by rw [WA.out]; exact fun _ _ h => h)))))
        refine wpQuiet_nil (wd_all ?_)
        intro W1 B1
        rw [hL.out] at B1
        clear a0 a1 s0 s1 t0 t1 ne
        go_wp2_with fail
        go_meet
        exact B1.sub (fun _ h => List.mem_cons_of_mem _ (List.mem_cons_of_mem _ h))
      · go_wp2_with fail
        go_meet
        exact B.out.sub (fun _ h => List.mem_cons_of_mem _ h)
    case rest =>
      replace B := hid hcut
      clear hcut BT
      obtain ⟨c0, d0⟩ := B.out.c2 mem2
      obtain ⟨c1, d1⟩ := B.out.c2 mem1
      obtain ⟨c2, d2⟩ := B.out.c2 mem0
      go_wp2_with fail
      refine (gapMeet_any _ _ _ (IsGaps.three _ a b c d e f)).mono ?_
      generalize ml0 : mtLo [(a, b), (c, d), (e, f)] = ml
      have ml0 := hid ml0
      generalize mh0 : mtHi [(a, b), (c, d), (e, f)] = mh
      have mh0 := hid mh0
      generalize me0 : mtErr [(a, b), (c, d), (e, f)] = me
      have me0 := hid me0
      rintro r w3 ⟨rfl, t⟩
      replace B := hid ((B.out.keep _).below t)
      clear t c0 d0 c1 d1 c2 d2
      obtain ⟨c0, d0⟩ := (B.out.add (.cells #[.int .i64 ml, .int .i64 mh] 23)).c2 mem3
      obtain ⟨c1, d1⟩ := (B.out.add (.cells #[.int .i64 ml, .int .i64 mh] 23)).c2 mem2
      obtain ⟨c2, d2⟩ := (B.out.add (.cells #[.int .i64 ml, .int .i64 mh] 23)).c2 mem1
      go_wp2_with fail
      refine (gapMeet_any _ _ _ (IsGaps.three' w3 (.cells #[.int .i64 ml, .int .i64 mh] 23) e f c d a b)).mono ?_
      rw [m1.out, m2.out, m3.out, ml0.out, mh0.out, me0.out]
      rintro r w4 ⟨rfl, t⟩
      replace B := hid (((B.out.add (.cells #[.int .i64 ml, .int .i64 mh] 23)).keep _).below t)
      clear t c0 d0 c1 d1 c2 d2
      obtain ⟨c0, d0⟩ := (B.out.add (.cells #[.int .i64 ml, .int .i64 mh] 23)).c2 mem4
      obtain ⟨c1, d1⟩ := (B.out.add (.cells #[.int .i64 ml, .int .i64 mh] 23)).c2 mem3
      obtain ⟨c2, d2⟩ := (B.out.add (.cells #[.int .i64 ml, .int .i64 mh] 23)).c2 mem2
      go_wp2_with fail
      refine (gapHull_any _ _ _ (IsGaps.three' w4 (.cells #[.int .i64 ml, .int .i64 mh] 23) a b c d e f)).mono ?_
      generalize hl0 : huLo [(a, b), (c, d), (e, f)] = hl
      have hl0 := hid hl0
      generalize hh0 : huHi [(a, b), (c, d), (e, f)] = hh
      have hh0 := hid hh0
      generalize he0 : huErr [(a, b), (c, d), (e, f)] = he
      have he0 := hid he0
      rintro r w5 ⟨rfl, t⟩
      replace B := hid (((B.out.add (.cells #[.int .i64 ml, .int .i64 mh] 23)).keep _).below t)
      clear t c0 d0 c1 d1 c2 d2
      obtain ⟨c0, d0⟩ := (B.out.add (.cells #[.int .i64 hl, .int .i64 hh] 23)).c2 mem5
      obtain ⟨c1, d1⟩ := (B.out.add (.cells #[.int .i64 hl, .int .i64 hh] 23)).c2 mem4
      obtain ⟨c2, d2⟩ := (B.out.add (.cells #[.int .i64 hl, .int .i64 hh] 23)).c2 mem3
      go_wp2_with fail
      refine (gapHull_any _ _ _ (IsGaps.three' w5 (.cells #[.int .i64 hl, .int .i64 hh] 23) c d e f a b)).mono ?_
      rw [u1.out, u2.out, u3.out, hl0.out, hh0.out, he0.out]
      rintro r w6 ⟨rfl, t⟩
      replace B := hid (((B.out.add (.cells #[.int .i64 hl, .int .i64 hh] 23)).keep _).below t)
      clear t c0 d0 c1 d1 c2 d2
      obtain ⟨c0, d0⟩ := (B.out.add (.cells #[.int .i64 hl, .int .i64 hh] 23)).c2 mem0
      obtain ⟨c1, d1⟩ := (B.out.add (.cells #[.int .i64 hl, .int .i64 hh] 23)).c2 mem1
      obtain ⟨c2, d2⟩ := (B.out.add (.cells #[.int .i64 hl, .int .i64 hh] 23)).c2 mem2
      obtain ⟨c3, d3⟩ := (B.out.add (.cells #[.int .i64 hl, .int .i64 hh] 23)).c2 mem3
      obtain ⟨c4, d4⟩ := (B.out.add (.cells #[.int .i64 hl, .int .i64 hh] 23)).c2 mem5
      obtain ⟨c5, d5⟩ := (B.out.add (.cells #[.int .i64 hl, .int .i64 hh] 23)).c2 mem6
      rcases MW.out with ⟨e0, -⟩ | ⟨e0, -, -⟩ | ⟨e0, -, -, -, -⟩
      · obtain rfl : me = 10 := by rw [← me0.out]; exact e0
        go_wp2_with fail
        go_ret
        exact ⟨rfl, (B.out.add (.cells #[.int .i64 hl, .int .i64 hh] 23)).bel⟩
      · obtain rfl : me = 13 := by rw [← me0.out]; exact e0
        go_wp2_with fail
        go_ret
        exact ⟨rfl, (B.out.add (.cells #[.int .i64 hl, .int .i64 hh] 23)).bel⟩
      · obtain rfl : me = 0 := by rw [← me0.out]; exact e0
        obtain ⟨q1, q2, q3, q4, q5⟩ := MS.out e0
        rw [hl0.out, hh0.out, ml0.out, mh0.out] at q5
        rw [ml0.out] at q3
        rw [mh0.out] at q4
        generalize pl0 : mtLo [(a, b), (c, d)] = pl at *
        generalize ph0 : mtHi [(a, b), (c, d)] = ph at *
        have q1 := hid q1
        have q2 := hid q2
        have q3 := hid q3
        have q4 := hid q4
        have q5 := hid q5
        have pl0 := hid pl0
        have ph0 := hid ph0
        clear e0
        go_wp2_with fail
        refine (gapMeet_any _ _ _ (IsGaps.two' w6 (.cells #[.int .i64 hl, .int .i64 hh] 23) a b c d)).mono ?_
        rw [q1.out, pl0.out, ph0.out]
        rintro r w7 ⟨rfl, t⟩
        replace B := hid (((B.out.add (.cells #[.int .i64 hl, .int .i64 hh] 23)).keep _).below t)
        clear t c0 d0 c1 d1 c2 d2 c3 d3 c4 d4 c5 d5
        obtain ⟨c0, d0⟩ := (B.out.add (.cells #[.int .i64 pl, .int .i64 ph] 23)).c2 mem0
        obtain ⟨c1, d1⟩ := (B.out.add (.cells #[.int .i64 pl, .int .i64 ph] 23)).c2 mem5
        go_wp2_with fail
        refine (gapMeet_any _ _ _ (IsGaps.two' w7 (.cells #[.int .i64 pl, .int .i64 ph] 23) pl ph e f)).mono ?_
        rw [q2.out, q3.out, q4.out]
        rintro r w8 ⟨rfl, t⟩
        replace B := hid (((B.out.add (.cells #[.int .i64 pl, .int .i64 ph] 23)).keep _).below t)
        clear t c0 d0 c1 d1
        obtain ⟨c0, d0⟩ := (B.out.add (.cells #[.int .i64 ml, .int .i64 mh] 23)).c2 mem0
        obtain ⟨c1, d1⟩ := (B.out.add (.cells #[.int .i64 ml, .int .i64 mh] 23)).c2 mem5
        obtain ⟨c2, d2⟩ := (B.out.add (.cells #[.int .i64 ml, .int .i64 mh] 23)).c2 mem3
        go_wp2_with fail
        refine (gapWithin_any _ _ _ _ _).mono ?_
        rw [q5.out]
        rintro r w9 ⟨rfl, t⟩
        replace B := hid ((B.out.add (.cells #[.int .i64 ml, .int .i64 mh] 23)).below t)
        clear t c0 d0 c1 d1 c2 d2
        go_wp2_with fail
        go_ret
        exact ⟨rfl, B.out.bel⟩
end Go.Proofs.Ytjhekggeofalfaa
