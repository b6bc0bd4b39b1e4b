/- Contracts of package grid: Pick, Span. -/
import Derived.Test.YtjhekggeofalfaaGrid2
namespace Go.Proofs.Ytjhekggeofalfaa
open Go.RowKit

theorem msE_zero {wd p mo lo hi : Int} (h : msE wd p mo lo hi = 0) : gOk wd p mo = true ∧ lo ≤ hi := by
  unfold msE at h
  split at h
  · rename_i g
    split at h
    · rename_i l; exact ⟨g, l⟩
    · omega
  · omega
theorem pk_no {wd p mo lo hi : Int} (h : msE wd p mo lo hi ≠ 0) : pkE wd p mo lo hi = msE wd p mo lo hi ∧ pkV wd p mo lo hi = 0 := by
  have e : pkE wd p mo lo hi = msE wd p mo lo hi := by rw [pkE, if_neg h]
  exact ⟨e, by rw [pkV, if_neg (by rw [e]; exact h)]⟩
theorem pk_wide {wd p mo lo hi : Int} (h : msE wd p mo lo hi = 0) (hw : mo < widthOf lo hi) : pkE wd p mo lo hi = 17 ∧ pkV wd p mo lo hi = 0 := by
  have e : pkE wd p mo lo hi = 17 := by rw [pkE, if_pos h, if_pos hw]
  exact ⟨e, by rw [pkV, e]; rfl⟩
theorem pk_0 {wd mo lo hi : Int} (h : msE wd 0 mo lo hi = 0) (hw : ¬ mo < widthOf lo hi) : pkE wd 0 mo lo hi = 0 ∧ pkV wd 0 mo lo hi = msA wd 0 mo lo hi := by
  have e : pkE wd 0 mo lo hi = 0 := by rw [pkE, if_pos h, if_neg hw]; rfl
  exact ⟨e, by rw [pkV, e]; rfl⟩
theorem pk_1 {wd mo lo hi : Int} (h : msE wd 1 mo lo hi = 0) (hw : ¬ mo < widthOf lo hi) : pkE wd 1 mo lo hi = 0 ∧ pkV wd 1 mo lo hi = msB wd 1 mo lo hi := by
  have e : pkE wd 1 mo lo hi = 0 := by rw [pkE, if_pos h, if_neg hw]; rfl
  exact ⟨e, by rw [pkV, e]; rfl⟩
theorem pk_2 {wd mo lo hi : Int} (h : msE wd 2 mo lo hi = 0) (hw : ¬ mo < widthOf lo hi) : pkE wd 2 mo lo hi = 0 ∧ pkV wd 2 mo lo hi = winOf wd 2 mo (midOf lo hi) := by
  have e : pkE wd 2 mo lo hi = 0 := by rw [pkE, if_pos h, if_neg hw]; rfl
  exact ⟨e, by rw [pkV, e]; rfl⟩
theorem pk_3 {wd p mo lo hi : Int} (h : msE wd p mo lo hi = 0) (hw : ¬ mo < widthOf lo hi) (p0 : p ≠ 0) (p1 : p ≠ 1) (p2 : p ≠ 2) :
    (msA wd p mo lo hi = msB wd p mo lo hi ∧ pkE wd p mo lo hi = 0 ∧ pkV wd p mo lo hi = msA wd p mo lo hi) ∨ (msA wd p mo lo hi ≠ msB wd p mo lo hi ∧ pkE wd p mo lo hi = 17 ∧ pkV wd p mo lo hi = 0) := by
  by_cases q : msA wd p mo lo hi = msB wd p mo lo hi
  · have e : pkE wd p mo lo hi = 0 := by rw [pkE, if_pos h, if_neg hw, if_neg (by omega), if_pos q]
    exact .inl ⟨q, e, by rw [pkV, e, if_pos rfl, if_neg p0, if_neg p1, if_neg p2]⟩
  · have e : pkE wd p mo lo hi = 17 := by rw [pkE, if_pos h, if_neg hw, if_neg (by omega), if_neg q]
    exact .inr ⟨q, e, by rw [pkV, e]; rfl⟩
theorem width_u64 {lo hi : Int} (h1 : Fits lo) (h2 : Fits hi) : 0 ≤ widthOf lo hi ∧ widthOf lo hi ≤ 18446744073709551615 := by
  obtain ⟨a1, a2⟩ := h1; obtain ⟨b1, b2⟩ := h2
  unfold widthOf; split <;> omega

set_option maxRecDepth 20000 in
set_option maxHeartbeats 8000000 in
theorem gridPick_any (wd p mo lo hi : Int) (w : World) (h1 : Fits lo) (h2 : Fits hi) :
    Calls Try.prog 38 #[gridV wd p mo, gapV lo hi] w fun e w' =>
      e = .returned (.tuple #[.int .i64 (pkV wd p mo lo hi), .int .i64 (pkE wd p mo lo hi)]) ∧ Below w.heap.size w w' := by
  have H1 := hid h1
  have H2 := hid h2
  have WU := hid (width_u64 h1 h2)
  clear h1 h2
  by_cases h0 : msE wd p mo lo hi = 0
  · obtain ⟨g, hle⟩ := msE_zero h0
    obtain ⟨-, -, -, -, m1, m2⟩ := gOk_iff.1 g
    have G := hid g
    have LE := hid hle
    have E0 := hid h0
    clear g hle h0
    have tail : (mo < widthOf lo hi ∧ pkE wd p mo lo hi = 17 ∧ pkV wd p mo lo hi = 0) ∨ (¬ mo < widthOf lo hi ∧ p = 0 ∧ pkE wd p mo lo hi = 0 ∧ pkV wd p mo lo hi = msA wd p mo lo hi) ∨
        (¬ mo < widthOf lo hi ∧ p = 1 ∧ pkE wd p mo lo hi = 0 ∧ pkV wd p mo lo hi = msB wd p mo lo hi) ∨ (¬ mo < widthOf lo hi ∧ p = 2 ∧ pkE wd p mo lo hi = 0 ∧ pkV wd p mo lo hi = winOf wd p mo (midOf lo hi)) ∨
        (¬ mo < widthOf lo hi ∧ p ≠ 0 ∧ p ≠ 1 ∧ p ≠ 2 ∧ ((msA wd p mo lo hi = msB wd p mo lo hi ∧ pkE wd p mo lo hi = 0 ∧ pkV wd p mo lo hi = msA wd p mo lo hi) ∨ (msA wd p mo lo hi ≠ msB wd p mo lo hi ∧ pkE wd p mo lo hi = 17 ∧ pkV wd p mo lo hi = 0))) := by
      by_cases hw : mo < widthOf lo hi
      · exact .inl ⟨hw, pk_wide E0.out hw⟩
      · by_cases p0 : p = 0
        · subst p0; exact .inr (.inl ⟨hw, rfl, pk_0 E0.out hw⟩)
        · by_cases p1 : p = 1
          · subst p1; exact .inr (.inr (.inl ⟨hw, rfl, pk_1 E0.out hw⟩))
          · by_cases p2 : p = 2
            · subst p2; exact .inr (.inr (.inr (.inl ⟨hw, rfl, pk_2 E0.out hw⟩)))
            · exact .inr (.inr (.inr (.inr ⟨hw, p0, p1, p2, pk_3 E0.out hw p0 p1 p2⟩)))
    have TAIL := hid tail
    clear tail
    generalize hpe : pkE wd p mo lo hi = pe at *
    generalize hpv : pkV wd p mo lo hi = pv at *
    generalize hma : msA wd p mo lo hi = ma at *
    generalize hmb : msB wd p mo lo hi = mb at *
    have MA := hid hma
    have MB := hid hmb
    clear hpe hpv hma hmb
    have HB0 := hid (Blks.two w (.cells #[.int .i64 wd, .int .i64 p, .int .i64 mo] 53) (.cells #[.int .i64 lo, .int .i64 hi] 23))
    go_enter Try.func38, Try.ntmps38
    go_wp2_with fail
    refine (gridMeets_any wd p mo lo hi _ H1.out H2.out).mono ?_
    rw [E0.out, MA.out, MB.out]
    rintro e w1 ⟨rfl, b1⟩
    have B := hid (HB0.out.below b1)
    clear b1 HB0
    go_wp2_with fail
    obtain ⟨L, hL, B⟩ := B.out.letter
    have ne := Wd.some_ B.out
    obtain ⟨a0, a1⟩ := Wd.k2 (w := w) hL mem0
    obtain ⟨b0, b1, b2⟩ := Wd.k3 (w := w) hL mem1
    have um : IntKind.u64.wrap mo = mo := by rw [u64_wrap]; omega
    refine wp_region_tame w L B.out (by kernel_rfl) (by kernel_rfl) ?_
    generalize hwd : widthOf lo hi = d at *
    have WD := hid hwd
    clear hwd
    repeat (go_big_quiet_step ((go_at_call 26; exact Calls.tame ((gapWidth_any lo hi _ H1.out H2.out).mono (by rw [WD.out]; exact fun _ _ h => h)))))
    refine wpQuiet_nil (wd_all ?_)
    intro W1 B1
    rw [hL.out] at B1
    replace B := hid B1
    clear a0 a1 b0 b1 b2 um ne hL B1
    obtain ⟨c0, c1⟩ := B.out.c2 mem0
    obtain ⟨e0, e1, e2⟩ := B.out.c3 mem1
    rcases TAIL.out with ⟨hw, rfl, rfl⟩ | ⟨hw, rfl, rfl, rfl⟩ | ⟨hw, rfl, rfl, rfl⟩ | ⟨hw, rfl, rfl, hv⟩ | ⟨hw, p0, p1, p2, ⟨q, rfl, rfl⟩ | ⟨q, rfl, rfl⟩⟩
    · go_wp2_with fail
      go_ret2
      exact ⟨rfl, B.out.bel⟩
    · go_wp2_with fail
      go_ret2
      exact ⟨rfl, B.out.bel⟩
    · go_wp2_with fail
      go_ret2
      exact ⟨rfl, B.out.bel⟩
    · have HV := hid hv
      clear hv c0 c1 e0 e1 e2
      obtain ⟨e0, e1, e2⟩ := B.out.c3 mem1
      go_wp2_with fail
      clear e0 e1 e2
      obtain ⟨L, hL, B⟩ := B.out.letter
      have ne := Wd.some_ B.out
      obtain ⟨a0, a1⟩ := Wd.k2 (w := w) hL mem0
      obtain ⟨b0, b1, b2⟩ := Wd.k3 (w := w) hL mem1
      refine wp_region_tame w L B.out (by kernel_rfl) (by kernel_rfl) ?_
      repeat (go_big_quiet_step (first
        | (go_at_call 22; exact Calls.tame (gapMid_any lo hi _ H1.out H2.out))
        | (go_at_call 41; exact Calls.tame (gridWindow_any wd 2 mo (midOf lo hi) _ (mid_fits H1.out H2.out)))))
      refine wpQuiet_nil (wd_all ?_)
      intro W2 B2
      go_wp2_with fail
      go_ret2
      exact ⟨ret2 HV.out.symm rfl, B2.bel⟩
    · have k0 : (p == 0) = false := beq_eq_false_iff_ne.2 p0
      have k1 : (p == 1) = false := beq_eq_false_iff_ne.2 p1
      have k2 : (p == 2) = false := beq_eq_false_iff_ne.2 p2
      clear p0 p1 p2
      subst q
      go_wp2_with fail
      go_ret2
      exact ⟨rfl, B.out.bel⟩
    · have k0 : (p == 0) = false := beq_eq_false_iff_ne.2 p0
      have k1 : (p == 1) = false := beq_eq_false_iff_ne.2 p1
      have k2 : (p == 2) = false := beq_eq_false_iff_ne.2 p2
      have k3 : (ma == mb) = false := beq_eq_false_iff_ne.2 q
      clear p0 p1 p2 q
      go_wp2_with fail
      go_ret2
      exact ⟨rfl, B.out.bel⟩
  · obtain ⟨pe, pv⟩ := pk_no h0
    rw [pe, pv]
    clear pe pv
    have HB0 := hid (Blks.two w (.cells #[.int .i64 wd, .int .i64 p, .int .i64 mo] 53) (.cells #[.int .i64 lo, .int .i64 hi] 23))
    go_enter Try.func38, Try.ntmps38
    go_wp2_with fail
    refine (gridMeets_any wd p mo lo hi _ H1.out H2.out).mono ?_
    generalize msA wd p mo lo hi = ma at *
    generalize msB wd p mo lo hi = mb at *
    generalize hme : msE wd p mo lo hi = me at *
    have ME := hid hme
    clear hme
    have k0 : (me == 0) = false := beq_eq_false_iff_ne.2 h0
    rintro e w1 ⟨rfl, b1⟩
    have B := hid (HB0.out.below b1)
    clear b1 HB0 h0
    go_wp2_with fail
    go_ret2
    exact ⟨ret2 rfl ME.out.symm, B.out.bel⟩

set_option maxRecDepth 20000 in
set_option maxHeartbeats 8000000 in
theorem gridSpan_any (wd p mo n : Int) (w : World) (h1 : Fits n) :
    Calls Try.prog 36 #[gridV wd p mo, .int .i64 n] w fun e w' =>
      e = .returned (.tuple #[gapV (spLo wd p mo n) (spHi wd p mo n), .int .i64 (spE wd p mo n)]) ∧ Below w.heap.size w w' := by
  have H1 := hid h1
  clear h1
  have HB0 := hid (Blks.two w (.cells #[.int .i64 wd, .int .i64 p, .int .i64 mo] 53) (.cells #[.int .i64 0, .int .i64 0] 23))
  go_enter Try.func36, Try.ntmps36
  go_wp2_with fail
  refine (gridRight_any wd p mo _).mono ?_
  rcases gOk_ways wd p mo with ⟨g, g1, g2, -⟩ | ⟨g, -⟩
  · rw [g]
    have G := hid g
    clear g
    rintro e w1 ⟨rfl, b1⟩
    have B := hid (HB0.out.below b1)
    clear b1 HB0
    obtain ⟨a0, a1, a2⟩ := B.out.c3 mem1
    obtain ⟨r0, r1⟩ := B.out.c2 mem0
    have z0 := B.out.fz mem0 0
    have z1 := B.out.fz mem0 1
    have FW := hid (show Fits wd from ⟨by omega, by omega⟩)
    have FV := hid (show Fits (wd - 1) from ⟨by omega, by omega⟩)
    go_wp2_with fail
    refine (safeMul_any n wd _ H1.out FW.out).mono ?_
    by_cases f1 : Fits (n * wd)
    · rw [sat_yes f1, err_yes f1]
      have F1 := hid f1
      clear f1
      have F1L := F1.out.lo
      have F1H := F1.out.hi
      generalize hnw : n * wd = nw at *
      have NW := hid hnw
      clear hnw
      rintro e w2 ⟨rfl, rfl⟩
      go_wp2_with fail
      refine (safeAdd_any nw (wd - 1) _ F1.out FV.out).mono ?_
      by_cases f2 : Fits (nw + (wd - 1))
      · rw [sat_yes f2, err_yes f2]
        have E := hid (show spE wd p mo n = 0 by rw [spE, G.out, if_pos rfl, NW.out, if_pos ⟨F1.out, f2⟩])
        rintro e w2 ⟨rfl, rfl⟩
        clear f2
        go_wp2_with fail
        exact bodyPost_ret (v := .tuple #[gapV nw (nw + (wd - 1)), .int .i64 0]) (by simp [results, Try.results36, go_sem, r0, r1]) rfl ⟨retge (by rw [spLo, E.out, if_pos rfl, NW.out]) (by rw [spHi, E.out, if_pos rfl, NW.out]) E.out.symm, below_set2 B.out.bel (by omega) _ _⟩
      · rw [sat_no f2, err_no f2]
        have E := hid (show spE wd p mo n = 12 by rw [spE, G.out, if_pos rfl, NW.out, if_neg (fun q => f2 q.2)])
        rintro e w2 ⟨rfl, rfl⟩
        clear f2
        go_wp2_with fail
        exact bodyPost_ret (v := .tuple #[gapV 0 0, .int .i64 12]) (by simp [results, Try.results36, go_sem, r0, r1]) rfl ⟨retge (by rw [spLo, E.out]; rfl) (by rw [spHi, E.out]; rfl) E.out.symm, below_set2 B.out.bel (by omega) _ _⟩
    · rw [sat_no f1, err_no f1]
      have E := hid (show spE wd p mo n = 12 by rw [spE, G.out, if_pos rfl, if_neg (fun q => f1 q.1)])
      rintro e w2 ⟨rfl, rfl⟩
      clear f1
      go_wp2_with fail
      exact bodyPost_ret (v := .tuple #[gapV 0 0, .int .i64 12]) (by simp [results, Try.results36, go_sem, r0, r1]) rfl ⟨retge (by rw [spLo, E.out]; rfl) (by rw [spHi, E.out]; rfl) E.out.symm, below_set2 B.out.bel (by omega) _ _⟩
  · rw [g]
    have E := hid (show spE wd p mo n = 21 by rw [spE, g]; rfl)
    clear g
    rintro e w1 ⟨rfl, b1⟩
    have B := hid (HB0.out.below b1)
    clear b1 HB0
    obtain ⟨r0, r1⟩ := B.out.c2 mem0
    have z0 := B.out.fz mem0 0
    have z1 := B.out.fz mem0 1
    go_wp2_with fail
    exact bodyPost_ret (v := .tuple #[gapV 0 0, .int .i64 21]) (by simp [results, Try.results36, go_sem, r0, r1]) rfl ⟨retge (by rw [spLo, E.out]; rfl) (by rw [spHi, E.out]; rfl) E.out.symm, below_set2 B.out.bel (by omega) _ _⟩
end Go.Proofs.Ytjhekggeofalfaa
