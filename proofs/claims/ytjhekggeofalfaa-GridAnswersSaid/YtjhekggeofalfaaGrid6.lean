/- Contracts of noonmarkref19.wide and Pick. -/
import Derived.Test.YtjhekggeofalfaaGrid5
namespace Go.Proofs.Ytjhekggeofalfaa
open Go.RowKit


def wdφ (w : World) (lo hi : Int) : Nat → Value → World → Prop
  | 0, v, _ => v = .pointer (some ⟨w.heap.size, 1, none⟩)
  | 1, v, _ => v = .int .i64 hi
  | 2, v, W => NumIs W v hi
  | 3, v, _ => v = .pointer (some ⟨w.heap.size, 0, none⟩)
  | 4, v, _ => v = .int .i64 lo
  | 5, v, W => NumIs W v lo
  | 6, v, W => NumIs W v (-lo)
  | 7, v, W => NumIs W v (hi + -lo)
  | _, _, _ => True
theorem wdφ_stable (w : World) (lo hi : Int) : ∀ i v W W', Below W.heap.size W W' → wdφ w lo hi i v W → wdφ w lo hi i v W' := by
  intro i v W W' hb h
  match i, h with
  | 0, h => exact h
  | 1, h => exact h
  | 2, h => exact NumIs.below h hb
  | 3, h => exact h
  | 4, h => exact h
  | 5, h => exact NumIs.below h hb
  | 6, h => exact NumIs.below h hb
  | 7, h => exact NumIs.below h hb
  | _ + 8, _ => trivial

def pkφ (w : World) (lo hi mo : Int) : Nat → Value → World → Prop
  | 0, v, _ => v = gapV lo hi
  | 1, v, W => NumIs W v (hi + -lo)
  | 2, v, _ => v = .pointer (some ⟨w.heap.size, 2, none⟩)
  | 3, v, _ => v = .int .i64 mo
  | 4, v, W => NumIs W v mo
  | 5, v, _ => v = .int .i64 (cmpOf (hi + -lo) mo)
  | _, _, _ => True
theorem pkφ_stable (w : World) (lo hi mo : Int) : ∀ i v W W', Below W.heap.size W W' → pkφ w lo hi mo i v W → pkφ w lo hi mo i v W' := by
  intro i v W W' hb h
  match i, h with
  | 0, h => exact h
  | 1, h => exact NumIs.below h hb
  | 2, h => exact h
  | 3, h => exact h
  | 4, h => exact NumIs.below h hb
  | 5, h => exact h
  | _ + 6, _ => trivial

set_option maxRecDepth 100000 in
set_option maxHeartbeats 2000000 in
theorem ref19Wide_any (lo hi : Int) (w : World) (h1 : Fits lo) (h2 : Fits hi) :
    Calls Try.prog 68 #[gapV lo hi] w (NumPost w (hi + -lo)) := by
  have H1 := hid h1
  have H2 := hid h2
  have SN := hid (show Small (-lo) by obtain ⟨x1, x2⟩ := h1; exact small_of (by omega))
  clear h1 h2
  have B := hid (Blks.two w (.cells #[.int .i64 lo, .int .i64 hi] 31) (.cells #[.bool false, .slice none 0 0] 85))
  go_enter Try.func68, Try.ntmps68
  go_upto_region 1 with fail
  generalize hl : [(w.heap.size + 1, Obj.cells #[.bool false, .slice none 0 0] 85 (0, 0)), (w.heap.size, Obj.cells #[.int .i64 lo, .int .i64 hi] 31 (0, 0))] = l at B
  have HL := hid hl.symm
  clear hl
  refine wp_region_each w l 8 (wdφ w lo hi) B.out _ rfl (by kernel_rfl) (by kernel_rfl) (wdφ_stable w lo hi) ?_ ?_
  · simp only [List.take_succ_cons, List.take_zero]
    refine ⟨fun x W K hB hd hK => ?_, fun x W K hB hd hK => ?_, fun x W K hB hd hK => ?_, fun x W K hB hd hK => ?_, fun x W K hB hd hK => ?_, fun x W K hB hd hK => ?_, fun x W K hB hd hK => ?_, fun x W K hB hd hK => ?_, trivial⟩
    · simp only [puts, Act.put, List.setIfInBounds_toArray, List.set_cons_zero, List.set_cons_succ, Nat.reduceAdd, Nat.zero_add] at hK ⊢
      clear hd
      generalize x 0 = x0 at *
      generalize x 1 = x1 at *
      generalize x 2 = x2 at *
      generalize x 3 = x3 at *
      generalize x 4 = x4 at *
      generalize x 5 = x5 at *
      generalize x 6 = x6 at *
      generalize x 7 = x7 at *
      go_simp
      exact hK _ _ (Below.refl _ _) rfl
    · simp only [puts, Act.put, List.setIfInBounds_toArray, List.set_cons_zero, List.set_cons_succ, Nat.reduceAdd, Nat.zero_add] at hK ⊢
      have d0 : x 0 = .pointer (some ⟨w.heap.size, 1, none⟩) := hd 0 (by decide)
      clear hd
      generalize x 0 = x0 at *
      generalize x 1 = x1 at *
      generalize x 2 = x2 at *
      generalize x 3 = x3 at *
      generalize x 4 = x4 at *
      generalize x 5 = x5 at *
      generalize x 6 = x6 at *
      generalize x 7 = x7 at *
      subst d0
      obtain ⟨c0, c1⟩ := hB.c2 (by rw [HL.out]; exact mem1)
      go_simp
      exact hK _ _ (Below.refl _ _) rfl
    · simp only [puts, Act.put, List.setIfInBounds_toArray, List.set_cons_zero, List.set_cons_succ, Nat.reduceAdd, Nat.zero_add] at hK ⊢
      have d1 : x 1 = .int .i64 hi := hd 1 (by decide)
      clear hd
      generalize x 0 = x0 at *
      generalize x 1 = x1 at *
      generalize x 2 = x2 at *
      generalize x 3 = x3 at *
      generalize x 4 = x4 at *
      generalize x 5 = x5 at *
      generalize x 6 = x6 at *
      generalize x 7 = x7 at *
      subst d1
      go_simp
      refine (of_any hi _ H2.out).mono ?_
      rintro e w2 ⟨v2, rfl, n2, b2⟩
      exact hK v2 w2 b2 n2
    · simp only [puts, Act.put, List.setIfInBounds_toArray, List.set_cons_zero, List.set_cons_succ, Nat.reduceAdd, Nat.zero_add] at hK ⊢
      clear hd
      generalize x 0 = x0 at *
      generalize x 1 = x1 at *
      generalize x 2 = x2 at *
      generalize x 3 = x3 at *
      generalize x 4 = x4 at *
      generalize x 5 = x5 at *
      generalize x 6 = x6 at *
      generalize x 7 = x7 at *
      go_simp
      exact hK _ _ (Below.refl _ _) rfl
    · simp only [puts, Act.put, List.setIfInBounds_toArray, List.set_cons_zero, List.set_cons_succ, Nat.reduceAdd, Nat.zero_add] at hK ⊢
      have d3 : x 3 = .pointer (some ⟨w.heap.size, 0, none⟩) := hd 3 (by decide)
      clear hd
      generalize x 0 = x0 at *
      generalize x 1 = x1 at *
      generalize x 2 = x2 at *
      generalize x 3 = x3 at *
      generalize x 4 = x4 at *
      generalize x 5 = x5 at *
      generalize x 6 = x6 at *
      generalize x 7 = x7 at *
      subst d3
      obtain ⟨c0, c1⟩ := hB.c2 (by rw [HL.out]; exact mem1)
      go_simp
      exact hK _ _ (Below.refl _ _) rfl
    · simp only [puts, Act.put, List.setIfInBounds_toArray, List.set_cons_zero, List.set_cons_succ, Nat.reduceAdd, Nat.zero_add] at hK ⊢
      have d4 : x 4 = .int .i64 lo := hd 4 (by decide)
      clear hd
      generalize x 0 = x0 at *
      generalize x 1 = x1 at *
      generalize x 2 = x2 at *
      generalize x 3 = x3 at *
      generalize x 4 = x4 at *
      generalize x 5 = x5 at *
      generalize x 6 = x6 at *
      generalize x 7 = x7 at *
      subst d4
      go_simp
      refine (of_any lo _ H1.out).mono ?_
      rintro e w2 ⟨v2, rfl, n2, b2⟩
      exact hK v2 w2 b2 n2
    · simp only [puts, Act.put, List.setIfInBounds_toArray, List.set_cons_zero, List.set_cons_succ, Nat.reduceAdd, Nat.zero_add] at hK ⊢
      have d5 : NumIs W (x 5) lo := hd 5 (by decide)
      clear hd
      generalize x 0 = x0 at *
      generalize x 1 = x1 at *
      generalize x 2 = x2 at *
      generalize x 3 = x3 at *
      generalize x 4 = x4 at *
      generalize x 5 = x5 at *
      generalize x 6 = x6 at *
      generalize x 7 = x7 at *
      have D5 := hid d5
      clear d5
      go_simp
      refine (neg_any _ lo _ D5.out).mono ?_
      rintro e w2 ⟨v2, rfl, n2, b2⟩
      exact hK v2 w2 b2 n2
    · simp only [puts, Act.put, List.setIfInBounds_toArray, List.set_cons_zero, List.set_cons_succ, Nat.reduceAdd, Nat.zero_add] at hK ⊢
      have d2 : NumIs W (x 2) hi := hd 2 (by decide)
      have d6 : NumIs W (x 6) (-lo) := hd 6 (by decide)
      clear hd
      generalize x 0 = x0 at *
      generalize x 1 = x1 at *
      generalize x 2 = x2 at *
      generalize x 3 = x3 at *
      generalize x 4 = x4 at *
      generalize x 5 = x5 at *
      generalize x 6 = x6 at *
      generalize x 7 = x7 at *
      have D2 := hid d2
      clear d2
      have D6 := hid d6
      clear d6
      go_simp
      refine (add_any _ _ hi (-lo) _ D2.out D6.out H2.out.small SN.out).mono ?_
      rintro e w2 ⟨v2, rfl, n2, b2⟩
      exact hK v2 w2 b2 n2
  · intro x W hB hd
    have d7 : NumIs W (x 7) (hi + -lo) := hd 7 (by decide)
    clear hd
    simp only [List.take_succ_cons, List.take_zero]
    simp only [puts, Act.put, List.setIfInBounds_toArray, List.set_cons_zero, List.set_cons_succ, Nat.reduceAdd, Nat.zero_add]
    generalize x 0 = x0 at *
    generalize x 1 = x1 at *
    generalize x 2 = x2 at *
    generalize x 3 = x3 at *
    generalize x 4 = x4 at *
    generalize x 5 = x5 at *
    generalize x 6 = x6 at *
    generalize x 7 = x7 at *
    have N7 := hid d7
    obtain ⟨s7, ds7, rfl, hr7, -⟩ := d7
    obtain ⟨A7, c7, rfl, -⟩ := hr7
    rw [HL.out] at hB
    have B2 := hid hB
    clear hB
    obtain ⟨r0, r1⟩ := B2.out.c2 mem0
    have z0 := B2.out.fz mem0 0
    have z1 := B2.out.fz mem0 1
    have D := hid (res_done (w := w) (g := w.heap.size + 1) B2.out.bel (by omega) (B2.out.at_ mem0) N7.out)
    go_simp
    go_wp2_with fail
    exact bodyPost_ret (v := .agg #[.bool (decide (hi + -lo < 0)), .slice A7 ds7.length c7]) (by simp [results, Try.results68, go_sem, r0, r1]) rfl ⟨_, rfl, D.out.1, D.out.2⟩

theorem cmp_width {lo hi mo : Int} (h : lo ≤ hi) : decide (0 < cmpOf (hi + -lo) mo) = decide (mo < widthOf lo hi) := by
  rw [widthOf, if_pos h]
  by_cases q : mo < hi - lo
  · rw [decide_eq_true q, cmpOf_gt (by omega)]; rfl
  · rw [decide_eq_false q]
    by_cases q2 : hi - lo < mo
    · rw [cmpOf_lt (by omega)]; rfl
    · rw [cmpOf_eq (by omega)]; rfl
theorem pk_tail {wd p mo lo hi : Int} (E0 : msE wd p mo lo hi = 0) : (mo < widthOf lo hi ∧ pkE wd p mo lo hi = 17 ∧ pkV wd p mo lo hi = 0) ∨ (¬ mo < widthOf lo hi ∧ p = 0 ∧ pkE wd p mo lo hi = 0 ∧ pkV wd p mo lo hi = msA wd p mo lo hi) ∨
    (¬ mo < widthOf lo hi ∧ p = 1 ∧ pkE wd p mo lo hi = 0 ∧ pkV wd p mo lo hi = msB wd p mo lo hi) ∨ (¬ mo < widthOf lo hi ∧ p = 2 ∧ pkE wd p mo lo hi = 0 ∧ pkV wd p mo lo hi = winOf wd p mo (midOf lo hi)) ∨
    (¬ mo < widthOf lo hi ∧ p ≠ 0 ∧ p ≠ 1 ∧ p ≠ 2 ∧ ((msA wd p mo lo hi = msB wd p mo lo hi ∧ pkE wd p mo lo hi = 0 ∧ pkV wd p mo lo hi = msA wd p mo lo hi) ∨ (msA wd p mo lo hi ≠ msB wd p mo lo hi ∧ pkE wd p mo lo hi = 17 ∧ pkV wd p mo lo hi = 0))) := by
  by_cases hw : mo < widthOf lo hi
  · exact .inl ⟨hw, pk_wide E0 hw⟩
  · by_cases p0 : p = 0
    · subst p0; exact .inr (.inl ⟨hw, rfl, pk_0 E0 hw⟩)
    · by_cases p1 : p = 1
      · subst p1; exact .inr (.inr (.inl ⟨hw, rfl, pk_1 E0 hw⟩))
      · by_cases p2 : p = 2
        · subst p2; exact .inr (.inr (.inr (.inl ⟨hw, rfl, pk_2 E0 hw⟩)))
        · exact .inr (.inr (.inr (.inr ⟨hw, p0, p1, p2, pk_3 E0 hw p0 p1 p2⟩)))

set_option maxRecDepth 100000 in
set_option maxHeartbeats 2000000 in
theorem ref19Pick_any (wd p mo lo hi : Int) (w : World) (h1 : Fits lo) (h2 : Fits hi) :
    Calls Try.prog 39 #[gridV wd p mo, gapV lo hi] w fun e w' =>
      e = .returned (.tuple #[.int .i64 (pkV wd p mo lo hi), .int .i64 (pkE wd p mo lo hi)]) ∧ Below w.heap.size w w' := by
  have H1 := hid h1
  have H2 := hid h2
  clear h1 h2
  have HB0 := hid (Blks.two w (.cells #[.int .i64 wd, .int .i64 p, .int .i64 mo] 57) (.cells #[.int .i64 lo, .int .i64 hi] 31))
  go_enter Try.func39, Try.ntmps39
  go_wp2_with fail
  refine (ref19Right_any wd p mo _).mono ?_
  rcases gOk_ways wd p mo with ⟨g, g1, g2, -, -, m1, m2⟩ | ⟨g, -⟩
  · rw [g]
    have G := hid g
    clear g
    rintro e w1 ⟨rfl, b1⟩
    have B := hid (HB0.out.below b1)
    clear b1 HB0
    obtain ⟨c0, c1⟩ := B.out.c2 mem0
    go_wp2_with fail
    refine (refRight_any lo hi _).mono ?_
    rintro e w2 ⟨rfl, b2⟩
    replace B := hid (B.out.below b2)
    clear b2 c0 c1
    by_cases hle : lo ≤ hi
    · rw [decide_eq_true hle]
      have E0 := hid (show msE wd p mo lo hi = 0 by rw [msE, G.out, if_pos rfl, if_pos hle])
      have CW := hid (cmp_width (mo := mo) hle)
      have TAIL := hid (pk_tail E0.out)
      have WA := hid (show winOf wd p mo lo = msA wd p mo lo hi by rw [msA, E0.out, if_pos rfl])
      have WB := hid (show winOf wd p mo hi = msB wd p mo lo hi by rw [msB, E0.out, if_pos rfl])
      have FM := hid (show Fits mo from ⟨by omega, by omega⟩)
      have SW := hid (show Small (hi + -lo) by obtain ⟨x1, x2⟩ := H1.out; obtain ⟨x3, x4⟩ := H2.out; exact small_of (by omega))
      have SD := hid (show Small (hi + -lo - mo) by obtain ⟨x1, x2⟩ := H1.out; obtain ⟨x3, x4⟩ := H2.out; exact small_of (by omega))
      clear hle
      generalize hpe : pkE wd p mo lo hi = pe at *
      generalize hpv : pkV wd p mo lo hi = pv at *
      generalize hma : msA wd p mo lo hi = ma at *
      generalize hmb : msB wd p mo lo hi = mb at *
      have PE := hid hpe
      have PV := hid hpv
      clear hpe hpv hma hmb
      go_upto_region 5 with fail
      generalize hl : [(w.heap.size + 1, Obj.cells #[.int .i64 lo, .int .i64 hi] 31 (0, 0)), (w.heap.size, Obj.cells #[.int .i64 wd, .int .i64 p, .int .i64 mo] 57 (0, 0))] = l at B
      have HL := hid hl.symm
      clear hl
      go_cut [20] (fun v wr => v = .bool (decide (mo < widthOf lo hi)) ∧ Blks w wr l)
      case first =>
        refine wp_region_each w l 6 (pkφ w lo hi mo) B.out _ rfl (by kernel_rfl) (by kernel_rfl) (pkφ_stable w lo hi mo) ?_ ?_
        · simp only [List.take_succ_cons, List.take_zero]
          refine ⟨fun x W K hB hd hK => ?_, fun x W K hB hd hK => ?_, fun x W K hB hd hK => ?_, fun x W K hB hd hK => ?_, fun x W K hB hd hK => ?_, fun x W K hB hd hK => ?_, trivial⟩
          · simp only [puts, Act.put, List.setIfInBounds_toArray, List.set_cons_zero, List.set_cons_succ, Nat.reduceAdd, Nat.zero_add] at hK ⊢
            clear hd
            generalize x 0 = x0 at *
            generalize x 1 = x1 at *
            generalize x 2 = x2 at *
            generalize x 3 = x3 at *
            generalize x 4 = x4 at *
            generalize x 5 = x5 at *
            obtain ⟨c0, c1⟩ := hB.c2 (by rw [HL.out]; exact mem0)
            go_simp
            exact hK _ _ (Below.refl _ _) rfl
          · simp only [puts, Act.put, List.setIfInBounds_toArray, List.set_cons_zero, List.set_cons_succ, Nat.reduceAdd, Nat.zero_add] at hK ⊢
            have d0 : x 0 = gapV lo hi := hd 0 (by decide)
            clear hd
            generalize x 0 = x0 at *
            generalize x 1 = x1 at *
            generalize x 2 = x2 at *
            generalize x 3 = x3 at *
            generalize x 4 = x4 at *
            generalize x 5 = x5 at *
            subst d0
            go_simp
            refine (ref19Wide_any lo hi _ H1.out H2.out).mono ?_
            rintro e w2 ⟨v2, rfl, n2, b2⟩
            exact hK v2 w2 b2 n2
          · simp only [puts, Act.put, List.setIfInBounds_toArray, List.set_cons_zero, List.set_cons_succ, Nat.reduceAdd, Nat.zero_add] at hK ⊢
            clear hd
            generalize x 0 = x0 at *
            generalize x 1 = x1 at *
            generalize x 2 = x2 at *
            generalize x 3 = x3 at *
            generalize x 4 = x4 at *
            generalize x 5 = x5 at *
            go_simp
            exact hK _ _ (Below.refl _ _) rfl
          · simp only [puts, Act.put, List.setIfInBounds_toArray, List.set_cons_zero, List.set_cons_succ, Nat.reduceAdd, Nat.zero_add] at hK ⊢
            have d2 : x 2 = .pointer (some ⟨w.heap.size, 2, none⟩) := hd 2 (by decide)
            clear hd
            generalize x 0 = x0 at *
            generalize x 1 = x1 at *
            generalize x 2 = x2 at *
            generalize x 3 = x3 at *
            generalize x 4 = x4 at *
            generalize x 5 = x5 at *
            subst d2
            obtain ⟨c0, c1, c2⟩ := hB.c3 (by rw [HL.out]; exact mem1)
            go_simp
            exact hK _ _ (Below.refl _ _) rfl
          · simp only [puts, Act.put, List.setIfInBounds_toArray, List.set_cons_zero, List.set_cons_succ, Nat.reduceAdd, Nat.zero_add] at hK ⊢
            have d3 : x 3 = .int .i64 mo := hd 3 (by decide)
            clear hd
            generalize x 0 = x0 at *
            generalize x 1 = x1 at *
            generalize x 2 = x2 at *
            generalize x 3 = x3 at *
            generalize x 4 = x4 at *
            generalize x 5 = x5 at *
            subst d3
            go_simp
            refine (of_any mo _ FM.out).mono ?_
            rintro e w2 ⟨v2, rfl, n2, b2⟩
            exact hK v2 w2 b2 n2
          · simp only [puts, Act.put, List.setIfInBounds_toArray, List.set_cons_zero, List.set_cons_succ, Nat.reduceAdd, Nat.zero_add] at hK ⊢
            have d1 : NumIs W (x 1) (hi + -lo) := hd 1 (by decide)
            have d4 : NumIs W (x 4) mo := hd 4 (by decide)
            clear hd
            generalize x 0 = x0 at *
            generalize x 1 = x1 at *
            generalize x 2 = x2 at *
            generalize x 3 = x3 at *
            generalize x 4 = x4 at *
            generalize x 5 = x5 at *
            have D1 := hid d1
            clear d1
            have D4 := hid d4
            clear d4
            go_simp
            refine (cmp_any _ _ (hi + -lo) mo _ D1.out D4.out SW.out FM.out.small SD.out).mono ?_
            rintro e w2 ⟨rfl, b2⟩
            exact hK _ w2 b2 rfl
        · intro x W hB hd
          have d5 : x 5 = .int .i64 (cmpOf (hi + -lo) mo) := hd 5 (by decide)
          clear hd
          simp only [List.take_succ_cons, List.take_zero]
          simp only [puts, Act.put, List.setIfInBounds_toArray, List.set_cons_zero, List.set_cons_succ, Nat.reduceAdd, Nat.zero_add]
          generalize x 0 = x0 at *
          generalize x 1 = x1 at *
          generalize x 2 = x2 at *
          generalize x 3 = x3 at *
          generalize x 4 = x4 at *
          generalize x 5 = x5 at *
          subst d5
          have B2 := hid hB
          clear hB
          generalize cmpOf (hi + -lo) mo = cc at *
          go_simp
          go_wp2_with fail
          go_meet
          exact ⟨by rw [← CW.out], B2.out⟩
      case rest =>
        obtain ⟨rfl, hB⟩ := hcut
        rw [HL.out] at hB
        replace B := hid hB
        clear hB CW
        obtain ⟨c0, c1⟩ := B.out.c2 mem0
        obtain ⟨d0, d1, d2⟩ := B.out.c3 mem1
        by_cases hw : mo < widthOf lo hi
        · obtain ⟨e1, e2⟩ : pe = 17 ∧ pv = 0 := by
            rcases TAIL.out with ⟨-, e⟩ | ⟨q, -⟩ | ⟨q, -⟩ | ⟨q, -⟩ | ⟨q, -⟩
            · exact e
            · exact absurd hw (Int.not_lt.2 q)
            · exact absurd hw (Int.not_lt.2 q)
            · exact absurd hw (Int.not_lt.2 q)
            · exact absurd hw (Int.not_lt.2 q)
          rw [decide_eq_true hw]
          have PE2 := hid (PE.out.trans e1)
          have PV2 := hid (PV.out.trans e2)
          clear hw e1 e2 TAIL
          go_wp2_with fail
          go_ret2
          exact ⟨ret2 PV2.out.symm PE2.out.symm, B.out.bel⟩
        · have T2 : (p = 0 ∧ pe = 0 ∧ pv = ma) ∨ (p = 1 ∧ pe = 0 ∧ pv = mb) ∨ (p = 2 ∧ pe = 0 ∧ pv = winOf wd p mo (midOf lo hi)) ∨ (p ≠ 0 ∧ p ≠ 1 ∧ p ≠ 2 ∧ ((ma = mb ∧ pe = 0 ∧ pv = ma) ∨ (ma ≠ mb ∧ pe = 17 ∧ pv = 0))) := by
            rcases TAIL.out with ⟨q, -⟩ | ⟨-, e⟩ | ⟨-, e⟩ | ⟨-, e⟩ | ⟨-, e⟩
            · exact absurd (hid q).out (Int.not_lt.2 (Int.not_lt.1 hw))
            · exact .inl e
            · exact .inr (.inl e)
            · exact .inr (.inr (.inl e))
            · exact .inr (.inr (.inr e))
          have T2 := hid T2
          rw [decide_eq_false hw]
          clear hw TAIL
          go_wp2_with fail
          refine (ref19Window_any wd p mo lo _ H1.out).mono ?_
          rw [WA.out]
          rintro e w5 ⟨rfl, b5⟩
          replace B := hid (B.out.below b5)
          clear b5 c0 c1 d0 d1 d2
          obtain ⟨c0, c1⟩ := B.out.c2 mem0
          obtain ⟨d0, d1, d2⟩ := B.out.c3 mem1
          go_wp2_with fail
          refine (ref19Window_any wd p mo hi _ H2.out).mono ?_
          rw [WB.out]
          rintro e w6 ⟨rfl, b6⟩
          replace B := hid (B.out.below b6)
          clear b6 c0 c1 d0 d1 d2 WA WB
          obtain ⟨d0, d1, d2⟩ := B.out.c3 mem1
          rcases T2.out with ⟨rfl, e1, e2⟩ | ⟨rfl, e1, e2⟩ | ⟨rfl, e1, e2⟩ | ⟨p0, p1, p2, ⟨q, e1, e2⟩ | ⟨q, e1, e2⟩⟩
          · have PE2 := hid (PE.out.trans e1)
            have PV2 := hid (PV.out.trans e2)
            clear e1 e2 T2
            go_wp2_with fail
            go_ret2
            exact ⟨ret2 PV2.out.symm PE2.out.symm, B.out.bel⟩
          · have PE2 := hid (PE.out.trans e1)
            have PV2 := hid (PV.out.trans e2)
            clear e1 e2 T2
            go_wp2_with fail
            go_ret2
            exact ⟨ret2 PV2.out.symm PE2.out.symm, B.out.bel⟩
          · have PE2 := hid (PE.out.trans e1)
            have PV2 := hid (PV.out.trans e2)
            clear e1 e2 T2
            go_wp2_with fail
            clear d0 d1 d2
            obtain ⟨L, hL, B⟩ := B.out.letter
            have ne := Wd.some_ B.out
            obtain ⟨a0, a1⟩ := Wd.k2 (w := w) hL mem0
            obtain ⟨b0, b1, b2⟩ := Wd.k3 (w := w) hL mem1
            refine wp_region_tame w L B.out (by kernel_rfl) (by kernel_rfl) ?_
            repeat (go_big_quiet_step (first
              | (go_at_call 23; exact Calls.tame (refMid_any lo hi _ H1.out H2.out))
              | (go_at_call 42; exact Calls.tame (ref19Window_any wd 2 mo (midOf lo hi) _ (mid_fits H1.out H2.out)))))
            refine wpQuiet_nil (wd_all ?_)
            intro W2 B2
            go_wp2_with fail
            go_ret2
            exact ⟨ret2 PV2.out.symm PE2.out.symm, B2.bel⟩
          · have PE2 := hid (PE.out.trans e1)
            have PV2 := hid (PV.out.trans e2)
            have k0 : (p == 0) = false := beq_eq_false_iff_ne.2 p0
            have k1 : (p == 1) = false := beq_eq_false_iff_ne.2 p1
            have k2 : (p == 2) = false := beq_eq_false_iff_ne.2 p2
            clear e1 e2 T2 p0 p1 p2
            subst q
            go_wp2_with fail
            go_ret2
            exact ⟨ret2 PV2.out.symm PE2.out.symm, B.out.bel⟩
          · have PE2 := hid (PE.out.trans e1)
            have PV2 := hid (PV.out.trans e2)
            have k0 : (p == 0) = false := beq_eq_false_iff_ne.2 p0
            have k1 : (p == 1) = false := beq_eq_false_iff_ne.2 p1
            have k2 : (p == 2) = false := beq_eq_false_iff_ne.2 p2
            have k3 : (ma == mb) = false := beq_eq_false_iff_ne.2 q
            clear e1 e2 T2 p0 p1 p2 q
            go_wp2_with fail
            go_ret2
            exact ⟨ret2 PV2.out.symm PE2.out.symm, B.out.bel⟩
    · rw [decide_eq_false hle]
      have E0 := hid (show msE wd p mo lo hi = 10 by rw [msE, G.out, if_pos rfl, if_neg hle])
      have PK := hid (pk_no (wd := wd) (p := p) (mo := mo) (lo := lo) (hi := hi) (by rw [E0.out]; decide))
      clear hle
      go_wp2_with fail
      go_ret2
      exact ⟨ret2 PK.out.2.symm (by rw [PK.out.1, E0.out]), B.out.bel⟩
  · rw [g]
    have E0 := hid (show msE wd p mo lo hi = 21 by rw [msE, g]; rfl)
    have PK := hid (pk_no (wd := wd) (p := p) (mo := mo) (lo := lo) (hi := hi) (by rw [E0.out]; decide))
    clear g
    rintro e w1 ⟨rfl, b1⟩
    have B := hid (HB0.out.below b1)
    clear b1 HB0
    go_wp2_with fail
    go_ret2
    exact ⟨ret2 PK.out.2.symm (by rw [PK.out.1, E0.out]), B.out.bel⟩
end Go.Proofs.Ytjhekggeofalfaa
