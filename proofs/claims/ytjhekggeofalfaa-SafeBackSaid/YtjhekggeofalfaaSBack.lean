/- noonmarklaw01.SafeBack returns true at every input and writes nothing that was there. -/
import Derived.Test.YtjhekggeofalfaaAlive01
import Derived.Deep.DeepCutAuto
namespace Go.Proofs.Ytjhekggeofalfaa
open Go.RowKit

theorem clamp_ways (a b c : Int) : (a < b ∧ c < b ∧ min (max a b) c = c) ∨ (a < b ∧ b ≤ c ∧ min (max a b) c = b) ∨ (b ≤ a ∧ c < a ∧ min (max a b) c = c) ∨ (b ≤ a ∧ a ≤ c ∧ min (max a b) c = a) := by omega
theorem ratio_back {a b : Int} (hb : 0 < b) (ha : Fits a) (up : Bool) : raV (a * b) 1 b up = a ∧ raE (a * b) 1 b up = 0 := by
  have e : divOf (a * b * 1) b up = a := by
    rw [Int.mul_one]
    unfold divOf
    cases up
    · rw [if_neg (by decide), Int.mul_ediv_cancel _ (by omega)]
    · rw [if_pos rfl, ← Int.neg_mul, Int.mul_ediv_cancel _ (by omega), Int.neg_neg]
  rw [raV, raE, if_pos (by omega), if_pos (by omega), e]
  exact ⟨sat_yes ha, err_yes ha⟩

set_option maxRecDepth 100000 in
set_option maxHeartbeats 4000000 in
theorem safeBack_any (a b c : Int) (w : World) (h1 : Fits a) (h2 : Fits b) (_ : Fits c) :
    Calls Try.prog 12 #[.int .i64 a, .int .i64 b, .int .i64 c] w fun e w' => e = .returned (.bool true) ∧ Below w.heap.size w w' := by
  have H1 := hid h1
  have H2 := hid h2
  clear h1 h2
  go_enter Try.func12, Try.ntmps12
  go_wp2_with fail
  refine (alive01_any _).mono ?_
  rintro e w1 ⟨rfl, x⟩
  have B := hid x
  clear x
  go_wp2_with fail
  refine (safeAdd_any a b _ H1.out H2.out).mono ?_
  generalize hs : sat (a + b) = s
  generalize he : err (a + b) = er
  have S := hid hs
  have E := hid he
  clear hs he
  rintro e w' ⟨rfl, rfl⟩
  go_upto_if 27 with fail
  go_cut [] (fun wr => Below w.heap.size w wr)
  case first =>
    by_cases f : Fits (a + b)
    · obtain rfl : er = 0 := by rw [← E.out]; exact err_yes f
      have SA := hid (show s = a + b by rw [← S.out]; exact sat_yes f)
      have FS := hid (show Fits s by rw [SA.out]; exact f)
      have SB := hid (show s - b = a by have := SA.out; omega)
      clear f
      go_wp2_with fail
      refine (safeSub_any s b _ FS.out H2.out).mono ?_
      rw [SB.out, sat_yes H1.out, err_yes H1.out]
      rintro e w' ⟨rfl, rfl⟩
      go_wp2_with fail
      go_meet
      exact B.out
    · obtain rfl : er = 12 := by rw [← E.out]; exact err_no f
      clear f
      go_wp2_with fail
      go_meet
      exact B.out
  case rest =>
    replace B := hid hcut
    clear hcut
    go_wp2_with fail
    refine (safeMul_any a b _ H1.out H2.out).mono ?_
    have RB := hid (fun (q : 0 < b) up => ratio_back q H1.out up)
    by_cases f : Fits (a * b)
    · rw [sat_yes f, err_yes f]
      have F := hid f
      have FN := hid (show (((a * b) * 1).natAbs : Int) < 18446744073709551616 by rw [Int.mul_one]; obtain ⟨y1, y2⟩ := f; omega)
      clear f
      generalize a * b = z at *
      rintro e w' ⟨rfl, rfl⟩
      by_cases hb : 0 < b
      · have q : decide (0 < b) = true := decide_eq_true hb
        have R1 := hid (RB.out hb true)
        have R2 := hid (RB.out hb false)
        clear hb RB
        go_wp2_with fail
        refine (safeRatio_small z 1 b true _ F.out ⟨by decide, by decide⟩ H2.out FN.out).mono ?_
        rw [R1.out.1, R1.out.2]
        rintro e w2 ⟨rfl, x⟩
        replace B := hid (B.out.trans (x.mono B.out.size))
        clear x
        go_wp2_with fail
        refine (safeRatio_small z 1 b false _ F.out ⟨by decide, by decide⟩ H2.out FN.out).mono ?_
        rw [R2.out.1, R2.out.2]
        rintro e w3 ⟨rfl, x⟩
        replace B := hid (B.out.trans (x.mono B.out.size))
        clear x
        go_upto_region 14 with fail
        clear q R1 R2 FN F
        rcases clamp_ways a b c with ⟨k1, k2, k3⟩ | ⟨k1, k2, k3⟩ | ⟨k1, k2, k3⟩ | ⟨k1, k2, k3⟩
        all_goals
          have K3 := hid k3
          clear k3
          go_wp2_with fail
          refine (safeClamp_any a b c _).mono ?_
          rw [K3.out]
          rintro e w' ⟨rfl, rfl⟩
          go_wp2_with fail
          go_ret
          exact ⟨rfl, B.out⟩
      · have q : decide (0 < b) = false := decide_eq_false hb
        clear hb RB
        go_upto_region 14 with fail
        clear q FN F
        rcases clamp_ways a b c with ⟨k1, k2, k3⟩ | ⟨k1, k2, k3⟩ | ⟨k1, k2, k3⟩ | ⟨k1, k2, k3⟩
        all_goals
          have K3 := hid k3
          clear k3
          go_wp2_with fail
          refine (safeClamp_any a b c _).mono ?_
          rw [K3.out]
          rintro e w' ⟨rfl, rfl⟩
          go_wp2_with fail
          go_ret
          exact ⟨rfl, B.out⟩
    · rw [sat_no f, err_no f]
      clear f RB
      rintro e w' ⟨rfl, rfl⟩
      rcases clamp_ways a b c with ⟨k1, k2, k3⟩ | ⟨k1, k2, k3⟩ | ⟨k1, k2, k3⟩ | ⟨k1, k2, k3⟩
      all_goals
        have K3 := hid k3
        clear k3
        go_wp2_with fail
        refine (safeClamp_any a b c _).mono ?_
        rw [K3.out]
        rintro e w' ⟨rfl, rfl⟩
        go_wp2_with fail
        go_ret
        exact ⟨rfl, B.out⟩
end Go.Proofs.Ytjhekggeofalfaa
