/- noonmarklaw01.SafeRises returns true at every input and writes nothing that was there. -/
import Derived.Test.YtjhekggeofalfaaRises0
import Derived.Deep.DeepCutAuto
namespace Go.Proofs.Ytjhekggeofalfaa
open Go.RowKit

set_option maxRecDepth 100000 in
set_option maxHeartbeats 4000000 in
theorem safeRises_any (a b c d : Int) (w : World) (h1 : Fits a) (h2 : Fits b) (h3 : Fits c) (h4 : Fits d) :
    Calls Try.prog 13 #[.int .i64 a, .int .i64 b, .int .i64 c, .int .i64 d] w fun e w' => e = .returned (.bool true) ∧ Below w.heap.size w w' := by
  have H1 := hid h1
  have H2 := hid h2
  have H3 := hid h3
  have H4 := hid h4
  clear h1 h2 h3 h4
  by_cases hab : b < a
  · go_enter Try.func13, Try.ntmps13
    go_wp2_with fail
    refine (alive01_any _).mono ?_
    rintro e w1 ⟨rfl, x⟩
    have B := hid x
    clear x
    go_wp2_with fail
    go_ret
    exact ⟨rfl, B.out⟩
  have AB := hid (Int.not_lt.1 hab)
  go_enter Try.func13, Try.ntmps13
  go_wp2_with fail
  refine (alive01_any _).mono ?_
  rintro e w1 ⟨rfl, x⟩
  have B := hid x
  clear x
  go_wp2_with fail
  refine (safeAdd_any a c _ H1.out H3.out).mono ?_
  have RI := hid (sat_rises (x := a + c) (y := b + c) (by have := AB.out; omega))
  generalize sat (a + c) = x at *
  generalize err (a + c) = e at *
  rintro _ _ ⟨rfl, rfl⟩
  go_wp2_with fail
  refine (safeAdd_any b c _ H2.out H3.out).mono ?_
  generalize sat (b + c) = y at *
  generalize err (b + c) = f at *
  rintro _ _ ⟨rfl, rfl⟩
  go_upto_region 7 with fail
  go_cut [40] (fun v wr => v = .bool false ∧ Below w.heap.size w wr)
  case first =>
    by_cases qe : e = 0
    · have qe1 : (e == 0) = true := beq_iff_eq.2 qe
      by_cases qf : f = 0
      · have qf1 : (f == 0) = true := beq_iff_eq.2 qf
        have le := RI.out qe qf
        have ng : decide (y < x) = false := decide_eq_false (by omega)
        go_wp2_with fail
        go_meet
        exact ⟨rfl, B.out⟩
      · have qf1 : (f == 0) = false := beq_eq_false_iff_ne.2 qf
        go_wp2_with fail
        go_meet
        exact ⟨rfl, B.out⟩
    · have qe1 : (e == 0) = false := beq_eq_false_iff_ne.2 qe
      go_wp2_with fail
      go_meet
      exact ⟨rfl, B.out⟩
  case rest =>
    obtain ⟨rfl, bb⟩ := hcut
    replace B := hid bb
    clear bb RI
    go_wp2_with fail
    refine (safeSub_any a c _ H1.out H3.out).mono ?_
    have RI := hid (sat_rises (x := a - c) (y := b - c) (by have := AB.out; omega))
    generalize sat (a - c) = x at *
    generalize err (a - c) = e at *
    rintro _ _ ⟨rfl, rfl⟩
    go_wp2_with fail
    refine (safeSub_any b c _ H2.out H3.out).mono ?_
    generalize sat (b - c) = y at *
    generalize err (b - c) = f at *
    rintro _ _ ⟨rfl, rfl⟩
    go_upto_region 11 with fail
    go_cut [63] (fun v wr => v = .bool false ∧ Below w.heap.size w wr)
    case first =>
      by_cases qe : e = 0
      · have qe1 : (e == 0) = true := beq_iff_eq.2 qe
        by_cases qf : f = 0
        · have qf1 : (f == 0) = true := beq_iff_eq.2 qf
          have le := RI.out qe qf
          have ng : decide (y < x) = false := decide_eq_false (by omega)
          go_wp2_with fail
          go_meet
          exact ⟨rfl, B.out⟩
        · have qf1 : (f == 0) = false := beq_eq_false_iff_ne.2 qf
          go_wp2_with fail
          go_meet
          exact ⟨rfl, B.out⟩
      · have qe1 : (e == 0) = false := beq_eq_false_iff_ne.2 qe
        go_wp2_with fail
        go_meet
        exact ⟨rfl, B.out⟩
    case rest =>
      obtain ⟨rfl, bb⟩ := hcut
      replace B := hid bb
      clear bb RI
      by_cases hc : c < 0
      · go_wp2_with fail
        refine (safeClamp_any a c d _).mono ?_
        have RI := hid (clamp_rises (c := c) (d := d) AB.out)
        generalize min (max a c) d = x at *
        rintro _ _ ⟨rfl, rfl⟩
        go_wp2_with fail
        refine (safeClamp_any b c d _).mono ?_
        generalize min (max b c) d = y at *
        rintro _ _ ⟨rfl, rfl⟩
        have le : decide (x ≤ y) = true := decide_eq_true RI.out
        go_wp2_with fail
        go_ret
        exact ⟨rfl, B.out⟩
      · go_wp2_with fail
        refine (safeRatio_any a c d true _ H1.out H3.out H4.out).mono ?_
        have RI := hid (ratio_rises (d := d) AB.out (by omega))
        generalize raV a c d true = x at *
        generalize raE a c d true = e at *
        rintro _ w2 ⟨rfl, b2⟩
        replace B := hid (B.out.trans (b2.mono B.out.size))
        clear b2
        go_wp2_with fail
        refine (safeRatio_any b c d true _ H2.out H3.out H4.out).mono ?_
        generalize raV b c d true = y at *
        generalize raE b c d true = f at *
        rintro _ w3 ⟨rfl, b2⟩
        replace B := hid (B.out.trans (b2.mono B.out.size))
        clear b2
        by_cases qe : e = 0
        · have qe1 : (e == 0) = true := beq_iff_eq.2 qe
          have qe2 : (e != 0) = false := by rw [bne, qe1]; rfl
          by_cases qf : f = 0
          · have qf1 : (f == 0) = true := beq_iff_eq.2 qf
            have qf2 : (f != 0) = false := by rw [bne, qf1]; rfl
            have le := RI.out qe qf
            have ng : decide (x ≤ y) = true := decide_eq_true le
            go_wp2_with fail
            go_ret
            exact ⟨rfl, B.out⟩
          · have qf1 : (f == 0) = false := beq_eq_false_iff_ne.2 qf
            have qf2 : (f != 0) = true := by rw [bne, qf1]; rfl
            go_wp2_with fail
            go_ret
            exact ⟨rfl, B.out⟩
        · have qe1 : (e == 0) = false := beq_eq_false_iff_ne.2 qe
          have qe2 : (e != 0) = true := by rw [bne, qe1]; rfl
          go_wp2_with fail
          go_ret
          exact ⟨rfl, B.out⟩
end Go.Proofs.Ytjhekggeofalfaa
