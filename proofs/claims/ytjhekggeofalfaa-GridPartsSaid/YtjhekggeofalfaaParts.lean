/- noonmarklaw19.GridParts returns true at every input and writes nothing that was there. -/
import Derived.Test.YtjhekggeofalfaaAlive19
namespace Go.Proofs.Ytjhekggeofalfaa
open Go.RowKit

theorem span_of {wd p mo n : Int} (e : spE wd p mo n = 0) : gOk wd p mo = true ∧ Fits (n * wd) ∧ Fits (n * wd + (wd - 1)) ∧ spLo wd p mo n = n * wd ∧ spHi wd p mo n = n * wd + (wd - 1) := by
  have e' := e
  unfold spE at e'
  split at e'
  · rename_i g
    split at e'
    · rename_i f; exact ⟨g, f.1, f.2, by rw [spLo, if_pos e], by rw [spHi, if_pos e]⟩
    · omega
  · omega
theorem span_err {wd p mo n : Int} (g : gOk wd p mo = true) (e : spE wd p mo n ≠ 0) : spE wd p mo n = 12 := by
  unfold spE at *
  rw [if_pos g] at *
  split at e
  · omega
  · rw [if_neg (by assumption)]
theorem win_eq {wd p mo t q : Int} (g : gOk wd p mo = true) (h0 : q * wd ≤ t) (h1 : t ≤ q * wd + (wd - 1)) : winOf wd p mo t = q := by
  rw [winOf, if_pos g]
  obtain ⟨g1, -⟩ := gOk_iff.1 g
  have : t = wd * q + (t - q * wd) := by rw [Int.mul_comm wd q]; omega
  rw [this, Int.add_comm, Int.add_mul_ediv_left _ _ (by omega), Int.ediv_eq_zero_of_lt (by omega) (by omega)]; omega
theorem win_lo {wd p mo t : Int} (g : gOk wd p mo = true) : winOf wd p mo t * wd ≤ t ∧ t ≤ winOf wd p mo t * wd + (wd - 1) := by
  rw [winOf, if_pos g]
  obtain ⟨g1, -⟩ := gOk_iff.1 g
  have e := Int.mul_ediv_add_emod t wd
  have r0 := Int.emod_nonneg t (show wd ≠ 0 by omega)
  have r1 := Int.emod_lt_of_pos t (show 0 < wd by omega)
  rw [Int.mul_comm] at e
  omega
theorem grid_parts {wd p mo t : Int} (g : gOk wd p mo = true) (ht : Fits t) (e : spE wd p mo (winOf wd p mo t) = 0) :
    hasOf (spLo wd p mo (winOf wd p mo t)) (spHi wd p mo (winOf wd p mo t)) t = true ∧ widthOf (spLo wd p mo (winOf wd p mo t)) (spHi wd p mo (winOf wd p mo t)) = wd - 1 ∧
    winOf wd p mo (spLo wd p mo (winOf wd p mo t)) = winOf wd p mo t ∧ winOf wd p mo (spHi wd p mo (winOf wd p mo t)) = winOf wd p mo t ∧
    ceOf wd p mo (spLo wd p mo (winOf wd p mo t)) (spHi wd p mo (winOf wd p mo t)) = true ∧ Fits (spLo wd p mo (winOf wd p mo t)) ∧ Fits (spHi wd p mo (winOf wd p mo t)) ∧
    (spE wd p mo (wrap64 (winOf wd p mo t + 1)) = 0 → spLo wd p mo (wrap64 (winOf wd p mo t + 1)) = wrap64 (spHi wd p mo (winOf wd p mo t) + 1)) := by
  obtain ⟨-, f1, f2, l, u⟩ := span_of e
  obtain ⟨g1, g2, -⟩ := gOk_iff.1 g
  obtain ⟨b0, b1⟩ := win_lo (t := t) g
  have wf := win_fits (wd := wd) (p := p) (mo := mo) ht
  rw [l, u]
  generalize hq : winOf wd p mo t = q at *
  have w1 : winOf wd p mo (q * wd) = q := win_eq g (by omega) (by omega)
  have w2 : winOf wd p mo (q * wd + (wd - 1)) = q := win_eq g (by omega) (by omega)
  have m0 : msE wd p mo (q * wd) (q * wd + (wd - 1)) = 0 := by rw [msE, if_pos g, if_pos (by omega)]
  refine ⟨by simp only [hasOf, Bool.and_eq_true, decide_eq_true_eq]; omega, by rw [widthOf, if_pos (by omega)]; omega, w1, w2, by simp [ceOf, msA, msB, m0, w1, w2], f1, f2, fun e2 => ?_⟩
  by_cases hf : Fits (q + 1)
  · rw [wrap64_fits hf] at e2 ⊢
    obtain ⟨-, k1, k2, k3, -⟩ := span_of e2
    rw [k3, show q * wd + (wd - 1) + 1 = (q + 1) * wd by rw [Int.add_mul]; omega, wrap64_fits k1]
  · have hq' : q = 9223372036854775807 := by obtain ⟨x1, x2⟩ := wf; unfold Fits at hf; omega
    subst hq'
    have hw : wd = 1 := by obtain ⟨x1, x2⟩ := f1; omega
    subst hw
    have e3 : wrap64 (9223372036854775807 + 1) = -9223372036854775808 := by unfold wrap64; omega
    rw [e3] at e2 ⊢
    obtain ⟨-, k1, k2, k3, -⟩ := span_of e2
    rw [k3]
    unfold wrap64
    omega

set_option maxRecDepth 100000 in
set_option maxHeartbeats 60000000 in
theorem gridParts_any (wd p mo t : Int) (w : World) (_ : Fits wd) (_ : Fits p) (_ : Fits mo) (h4 : Fits t) :
    Calls Try.prog 9 #[gridV wd p mo, .int .i64 t] w fun e w' => e = .returned (.bool true) ∧ Below w.heap.size w w' := by
  have HT := hid h4
  clear h4
  have B0 := hid ((Blks.nil w).add (.cells #[.int .i64 wd, .int .i64 p, .int .i64 mo] 53))
  go_enter Try.func9, Try.ntmps9
  go_wp2_with fail
  refine (alive19_any _).mono ?_
  rintro r w1 ⟨rfl, x⟩
  have B := hid (B0.out.below x)
  clear x B0
  obtain ⟨c0, c1, c2⟩ := B.out.c3 mem0
  go_wp2_with fail
  refine (lawOf19_any wd p mo _).mono ?_
  rintro r w2 ⟨rfl, x⟩
  replace B := hid (B.out.below x)
  clear x c0 c1 c2
  go_wp2_with fail
  refine (ref19Right_any wd p mo _).mono ?_
  rcases gOk_ways wd p mo with ⟨g, g1, g2, -⟩ | ⟨g, -⟩
  · rw [g]
    have Gk := hid g
    have SP := hid (fun e => grid_parts g HT.out e)
    have SE := hid (fun n => span_err (n := n) g)
    have U2 := hid (show IntKind.u64.wrap wd = wd by rw [u64_wrap]; omega)
    have U1 := hid (show IntKind.u64.wrap (wd - 1 + 1) = wd by rw [u64_wrap]; omega)
    have WF := hid (win_fits (wd := wd) (p := p) (mo := mo) HT.out)
    clear g g1 g2
    rintro r w3 ⟨rfl, x⟩
    replace B := hid (B.out.below x)
    clear x
    obtain ⟨c0, c1, c2⟩ := B.out.c3 mem0
    go_wp2_with fail
    refine (gridWindow_any wd p mo t _ HT.out).mono ?_
    generalize winOf wd p mo t = q at *
    rintro r w4 ⟨rfl, x⟩
    replace B := hid (B.out.below x)
    clear x c0 c1 c2
    obtain ⟨c0, c1, c2⟩ := B.out.c3 mem0
    go_wp2_with fail
    refine (gridSpan_any wd p mo q _ WF.out).mono ?_
    by_cases e0 : spE wd p mo q = 0
    · obtain ⟨s1, s2, s3, s4, s5, s6, s7, s8⟩ := SP.out e0
      rw [e0]
      generalize spLo wd p mo q = lo at *
      generalize spHi wd p mo q = hi at *
      have S1 := hid s1
      have S2 := hid s2
      have S3 := hid s3
      have S4 := hid s4
      have S5 := hid s5
      have S6 := hid s6
      have S7 := hid s7
      have S8 := hid s8
      clear s1 s2 s3 s4 s5 s6 s7 s8 e0 SP SE
      rintro r w5 ⟨rfl, x⟩
      replace B := hid (B.out.below x)
      replace B := hid (B.out.add (.cells #[.int .i64 lo, .int .i64 hi] 23))
      clear x c0 c1 c2
      go_wp2_with fail
      obtain ⟨L, hL, B⟩ := B.out.letter
      have ne := Wd.some_ B.out
      obtain ⟨a0, a1⟩ := Wd.k2 (w := w) hL mem0
      obtain ⟨b0, b1, b2⟩ := Wd.k3 (w := w) hL mem1
      have U2 := U2.out
      have U1 := U1.out
      generalize wd - 1 = d at *
      refine wp_region_tame w L B.out (by kernel_rfl) (by kernel_rfl) ?_
      repeat (go_big_quiet_step (first
        | (go_at_call 24; exact Calls.tame ((gapHas_any lo hi t _).mono (by rw [S1.out]; exact fun _ _ h => h)))
        | (go_at_call 26; exact Calls.tame ((gapWidth_any lo hi _ S6.out S7.out).mono (by rw [S2.out]; exact fun _ _ h => h)))
        | (go_at_call 41; with_reducible exact Calls.tame ((gridWindow_any wd p mo lo _ S6.out).mono (by rw [S3.out]; exact fun _ _ h => h)))
        | (go_at_call 41; with_reducible exact Calls.tame ((gridWindow_any wd p mo hi _ S7.out).mono (by rw [S4.out]; exact fun _ _ h => h)))
        | (go_at_call 43; exact Calls.tame ((gridCertain_any wd p mo lo hi _ S6.out S7.out).mono (by rw [S5.out]; exact fun _ _ h => h)))))
      refine wpQuiet_nil (wd_all ?_)
      intro W1 B1
      rw [hL.out] at B1
      replace B := hid B1
      clear a0 a1 b0 b1 b2 U1 U2 ne hL B1
      obtain ⟨c0, c1, c2⟩ := B.out.c3 mem1
      go_wp2_with fail
      refine (gridSpan_any wd p mo (wrap64 (q + 1)) _ (fits_wrap _)).mono ?_
      generalize wrap64 (q + 1) = q2 at *
      generalize spHi wd p mo q2 = hi2
      by_cases e2 : spE wd p mo q2 = 0
      · rw [e2, S8.out e2]
        generalize hhw : wrap64 (hi + 1) = hw at *
        rintro r w6 ⟨rfl, x⟩
        replace B := hid (B.out.below x)
        replace B := hid (B.out.add (.cells #[.int .i64 hw, .int .i64 hi2] 23))
        clear x c0 c1 c2 e2
        obtain ⟨a0, a1⟩ := B.out.c2 mem0
        obtain ⟨b0, b1⟩ := B.out.c2 mem1
        go_wp2_with fail
        go_ret
        exact ⟨rfl, B.out.bel⟩
      · generalize spE wd p mo q2 = ee at *
        generalize spLo wd p mo q2 = lo2 at *
        have k0 : (ee != 0) = true := bne_iff_ne.2 e2
        rintro r w6 ⟨rfl, x⟩
        replace B := hid (B.out.below x)
        clear x c0 c1 c2 e2
        go_wp2_with fail
        go_ret
        exact ⟨rfl, (B.out.keep _).bel⟩
    · rw [SE.out q e0]
      generalize spLo wd p mo q = lo
      generalize spHi wd p mo q = hi
      clear e0 SE SP
      rintro r w5 ⟨rfl, x⟩
      replace B := hid (B.out.below x)
      clear x c0 c1 c2
      go_wp2_with fail
      go_ret
      exact ⟨rfl, (B.out.keep _).bel⟩
  · rw [g]
    clear g
    rintro r w3 ⟨rfl, x⟩
    replace B := hid (B.out.below x)
    clear x
    go_wp2_with fail
    go_ret
    exact ⟨rfl, B.out.bel⟩
end Go.Proofs.Ytjhekggeofalfaa
