/- Contract of noonmarkref01.Div: the walk. -/
import Derived.Test.YtjhekggeofalfaaDoorDiv
namespace Go.Proofs.YtjhekggeofalfaaDoor
open Go.RowKit

theorem Three.a1 {w W : World} {p q : Bool} {s t : Value} (h : Three w p q s t W) (o : Obj) : Three w p q s t (W.alloc o) := h.below ((Below.refl _ _).alloc (Nat.le_refl _) o)
theorem Three.rows {w W : World} {p q : Bool} {s t v : Value} {z : Int} (h : Three w p q s t W) (hr : RowIs w v z) : RowIs W v z := hr.below h.1

theorem div_q {q y r : Int} (h0 : 0 ≤ r) (h1 : r < y) : (q * y + r) / y = q := by
  rw [Int.add_comm, Int.add_mul_ediv_right _ _ (by omega), Int.ediv_eq_zero_of_lt h0 h1]; omega
/-- The quotient and the rest of the sizes give the quotient that is rounded down or up. -/
theorem div_fin {x y Q R : Int} (up : Bool) (hA : (x.natAbs : Int) = Q * y + R) (h0 : 0 ≤ R) (h1 : R < y) :
    numOf (decide (x < 0)) (if R ≠ 0 ∧ up ≠ decide (x < 0) then Q + 1 else Q) = divOf x y up := by
  have a0 : (Q * y + R) / y = Q := div_q h0 h1
  have a1 : R ≠ 0 → (-(Q * y + R)) / y = -(Q + 1) := fun hR => by
    have e : -(Q * y + R) = -(Q + 1) * y + (y - R) := by rw [Int.neg_mul, Int.add_mul]; omega
    rw [e]; exact div_q (by omega) (by omega)
  have a2 : R = 0 → (-(Q * y + R)) / y = -Q := fun hR => by
    have e : -(Q * y + R) = -Q * y + 0 := by rw [Int.neg_mul]; omega
    rw [e]; exact div_q (by omega) (by omega)
  unfold numOf divOf
  by_cases hx : x < 0
  · have ex : x = -(Q * y + R) := by omega
    have ex' : -x = Q * y + R := by omega
    rw [decide_eq_true hx]
    cases up
    · by_cases hR : R = 0
      · simp [hR]; rw [ex, a2 hR]
      · simp [hR]; rw [ex, a1 hR]
    · simp; rw [ex', a0]
  · have ex : x = Q * y + R := by omega
    rw [decide_eq_false hx]
    cases up
    · simp; rw [ex, a0]
    · by_cases hR : R = 0
      · simp [hR]; rw [ex, a2 hR]; omega
      · simp [hR]; rw [ex, a1 hR]; omega

set_option maxRecDepth 100000 in
set_option maxHeartbeats 4000000 in
theorem div_any (v u : Value) (x y : Int) (up : Bool) (w : World) (hv : NumIs w v x) (hu : NumIs w u y) (sx : Small x) (sy : Small y) (hy : 0 < y) :
    Calls Tryd.prog 53 #[v, u, .bool up] w (NumPost w (divOf x y up)) := by
  obtain ⟨s, a, rfl, hr, hc, hva⟩ := hv
  obtain ⟨t, b, rfl, hr', hc', hvb⟩ := hu
  have hyb : val b = y := by omega
  have CR := hid (show RowIs w t y from ⟨b, hr', hc', hyb⟩)
  have LA := hid (small_len sx hc hva)
  have MY := hid (show Mid y by have := sy; unfold Small at this; unfold Mid; have := pw_le (show 40 ≤ 50 by decide); omega)
  have SYY := hid sy
  have hyy := hid hy
  have M1 := hid (show Mid 1 by
    have h1 := pw_le (show 1 ≤ 50 by decide)
    have h2 := pw_one
    unfold Mid; omega)
  have MX := hid (show Mid (val a) by rw [hva]; have := sx; unfold Small at this; unfold Mid; have := pw_le (show 40 ≤ 50 by decide); omega)
  have HR := hid hr
  have HC := hid hc
  have HVA := hid hva
  have hp : ∃ p, p = decide (x < 0) := ⟨_, rfl⟩
  obtain ⟨p, hp⟩ := hp
  have hq : decide (y < 0) = false := by simp; omega
  rw [hq, ← hp]
  have HP := hid hp
  clear hp hq hvb hyb hr' hc' sx sy hc hva
  obtain ⟨A, ca, rfl, hlc, -, -⟩ := hr
  generalize hn : a.length = n at *
  have HN := hid hn
  clear hn
  have la : n ≤ 40 := LA.out
  go_enter Tryd.func53, Tryd.ntmps53
  go_wp2_with fail
  go_loopw [7, 8, 9] (fun qv rv i wr => ∃ (k : Nat) (Q R : Int), k ≤ 16 * n ∧ i = .int .i64 ((k : Int) - 1) ∧ RowIs wr qv Q ∧ RowIs wr rv R ∧ val a / 2 ^ k = Q * y + R ∧ R < y ∧ Three w p false (.slice A n ca) t wr)
    (fun _ _ i _ => (intOf i + 1).toNat)
  case atStart =>
    have T0 := Three.mk w p false (.slice A n ca) t
    have h1 := RowIs.zero (((w.alloc (.cells #[.bool p, .slice A n ca] 34)).alloc (.cells #[.bool false, t] 34)).alloc (.cells #[.bool false, .slice none 0 0] 34))
    have h2 := RowIs.zero ((((w.alloc (.cells #[.bool p, .slice A n ca] 34)).alloc (.cells #[.bool false, t] 34)).alloc (.cells #[.bool false, .slice none 0 0] 34)).alloc (.cells #[] 3))
    refine ⟨16 * n, 0, 0, Nat.le_refl _, by go_num, by have := h1.alloc (.cells #[] 3); simpa using this, by simpa using h2, ?_, by omega, (T0.a1 _).a1 _⟩
    have : val a / 2 ^ (16 * n) = 0 := by
      rw [two_pow_16]
      exact Int.ediv_eq_zero_of_lt (val_nonneg HC.out.limbs) (by rw [← HN.out]; exact val_lt HC.out.limbs)
    rw [this]; omega
  case round =>
    obtain ⟨k, Q, R, hk, rfl, hQ, hR, hA, hRy, hT⟩ := hrel
    have HQ := hid hQ
    have HRr := hid hR
    have HAq := hid hA
    have HT := hid hT
    have HRy := hid hRy
    clear hQ hR hA hT hRy
    by_cases h0 : k = 0
    · subst h0
      rw [show ((0 : Nat) : Int) - 1 = -1 from rfl]
      have HF := hid (show (x.natAbs : Int) = Q * y + R by
        have := HAq.out
        rw [show (2 : Int) ^ 0 = 1 from rfl, Int.ediv_one] at this
        rw [← this]; exact HVA.out.symm)
      have HR0 := hid HRr.out.nonneg
      have c0 := HT.out.c0
      have c1 := HT.out.c1
      obtain ⟨rs, hr1, hr2, hr3⟩ := HRr.out
      have HRL := hid (show rs.length = 0 ↔ R = 0 by
        constructor
        · intro h; rw [List.eq_nil_of_length_eq_zero h] at hr3; exact hr3.symm
        · intro h; rw [hr2.zero (by rw [hr3, h])]; rfl)
      obtain ⟨Ar, cr, rfl, -⟩ := hr1
      clear hr2 hr3
      generalize rs.length = rl at *
      by_cases hadd : R ≠ 0 ∧ up ≠ p
      · have hl : (0 : Int) < (rl : Int) := by
          have : rl ≠ 0 := fun h => hadd.1 (HRL.out.1 h)
          omega
        have hup : (up == p) = false := by simpa using hadd.2
        have HADD := hid hadd
        have MQ := hid (show Mid Q from MX.out.le (by
          have h4 : Q * 1 ≤ Q * y := Int.mul_le_mul_of_nonneg_left (by omega) HQ.out.nonneg
          have := HF.out; have := HR0.out; rw [HVA.out]; omega))
        clear hadd
        go_wp2_with fail
        refine (plus_row _ _ Q 1 _ (HQ.out.alloc _) (RowIs.one _) MQ.out M1.out).mono ?_
        rintro e w3 ⟨q3, rfl, hq3, b3⟩
        have Q30 := hid hq3
        have T3 := hid ((HT.out.a1 _).below b3)
        clear hq3 b3 c0 c1
        have c0 := T3.out.c0
        have c1 := T3.out.c1
        go_wp2_with fail
        obtain ⟨qs, q1, q2, q3⟩ := Q30.out
        have Q1 := hid q1
        have Q2 := hid q2
        have Q3 := hid q3
        clear q1 q2 q3
        refine (made_any p _ qs _ Q1.out Q2.out.limbs).mono ?_
        rintro e w4 ⟨v4, rfl, hn4, b4⟩
        have T4 := hid (T3.out.below b4)
        have N4 := hid hn4
        obtain ⟨s4, d4, rfl, hq4, -⟩ := hn4
        obtain ⟨A4, k4, rfl, -⟩ := hq4
        have r0 := T4.out.r0
        have r1 := T4.out.r1
        have z0 := T4.out.z 0
        have z1 := T4.out.z 1
        clear b4 c0 c1
        go_wp2
        have D := T4.out.done _ N4.out
        have F := div_fin (x := x) (y := y) up HF.out HR0.out HRy.out
        rw [← HP.out] at F
        rw [if_pos HADD.out] at F
        refine bodyPost_ret (v := .agg #[.bool (decide (numOf p (val qs) < 0)), .slice A4 d4.length k4]) (by simp [results, Tryd.results53, go_sem, r0, r1]) rfl ⟨_, rfl, ?_, D.2⟩
        rw [← F, ← Q3.out]; exact D.1
      · have HADD := hid hadd
        have hcase : rl = 0 ∨ (0 < rl ∧ up = p) := by
          by_cases h0 : rl = 0
          · exact .inl h0
          · refine .inr ⟨by omega, ?_⟩
            by_cases h1 : up = p
            · exact h1
            · exact (hadd ⟨fun e => h0 (HRL.out.2 e), h1⟩).elim
        clear hadd
        have HQ' := HQ
        rcases hcase with h | ⟨hl, hup⟩
        · subst h
          go_wp2_with fail
          obtain ⟨qs, q1, q2, q3⟩ := HQ'.out
          have Q1 := hid q1
          have Q2 := hid q2
          have Q3 := hid q3
          clear q1 q2 q3
          refine (made_any p _ qs _ Q1.out Q2.out.limbs).mono ?_
          rintro e w4 ⟨v4, rfl, hn4, b4⟩
          have T4 := hid (HT.out.below b4)
          have N4 := hid hn4
          obtain ⟨s4, d4, rfl, hq4, -⟩ := hn4
          obtain ⟨A4, k4, rfl, -⟩ := hq4
          have r0 := T4.out.r0
          have r1 := T4.out.r1
          have z0 := T4.out.z 0
          have z1 := T4.out.z 1
          clear b4 c0 c1
          go_wp2
          have D := T4.out.done _ N4.out
          have F := div_fin (x := x) (y := y) up HF.out HR0.out HRy.out
          rw [← HP.out] at F
          rw [if_neg HADD.out] at F
          refine bodyPost_ret (v := .agg #[.bool (decide (numOf p (val qs) < 0)), .slice A4 d4.length k4]) (by simp [results, Tryd.results53, go_sem, r0, r1]) rfl ⟨_, rfl, ?_, D.2⟩
          rw [← F, ← Q3.out]; exact D.1
        · have hl' : (0 : Int) < (rl : Int) := by omega
          have hup' : (up == p) = true := by simpa using hup
          have HUP := hid hup
          clear hup
          go_wp2_with fail
          obtain ⟨qs, q1, q2, q3⟩ := HQ'.out
          have Q1 := hid q1
          have Q2 := hid q2
          have Q3 := hid q3
          clear q1 q2 q3
          refine (made_any p _ qs _ Q1.out Q2.out.limbs).mono ?_
          rintro e w4 ⟨v4, rfl, hn4, b4⟩
          have T4 := hid (HT.out.below b4)
          have N4 := hid hn4
          obtain ⟨s4, d4, rfl, hq4, -⟩ := hn4
          obtain ⟨A4, k4, rfl, -⟩ := hq4
          have r0 := T4.out.r0
          have r1 := T4.out.r1
          have z0 := T4.out.z 0
          have z1 := T4.out.z 1
          clear b4 c0 c1
          go_wp2
          have D := T4.out.done _ N4.out
          have F := div_fin (x := x) (y := y) up HF.out HR0.out HRy.out
          rw [← HP.out] at F
          rw [if_neg HADD.out] at F
          refine bodyPost_ret (v := .agg #[.bool (decide (numOf p (val qs) < 0)), .slice A4 d4.length k4]) (by simp [results, Tryd.results53, go_sem, r0, r1]) rfl ⟨_, rfl, ?_, D.2⟩
          rw [← F, ← Q3.out]; exact D.1
    · obtain ⟨j, rfl⟩ : ∃ j, k = j + 1 := ⟨k - 1, by omega⟩
      have hj : ((j + 1 : Nat) : Int) - 1 = (j : Int) := by omega
      rw [hj]
      clear h0 hj
      go_wp2_with fail
      refine (plus_row _ _ R R _ HRr.out HRr.out (MY.out.le (by have := HRy.out; omega)) (MY.out.le (by have := HRy.out; omega))).mono ?_
      rintro e w1 ⟨r1, rfl, hr1, b1⟩
      have R1 := hid hr1
      have T1 := hid (HT.out.below b1)
      have Q1 := hid (HQ.out.below b1)
      clear hr1 b1
      have c1 := T1.out.c1
      obtain ⟨b', o, hA, hb, hcell⟩ : ∃ b o, A = some ⟨b, o, none⟩ ∧ b < w1.heap.size ∧ ∀ i, i < a.length → w1.cell? ⟨b, o + i, none⟩ = some (.int .i64 (lim a i)) := by
        obtain ⟨A', c', hv, -, -, hx⟩ := T1.out.row HR.out
        injection hv with e1 e2 e3
        subst e1
        exact row_cells hx (by have := HN.out; omega)
      have cell := hcell (j / 16) (by have := HN.out; omega)
      have lb := HC.out.limbs.getD (j / 16)
      have BE := hid (bit_eq HC.out.limbs j)
      subst hA
      have MYY := hid (show Mid (2 * y) by
        have h1 := SYY.out
        unfold Small at h1
        have h2 := pw_le (show 41 ≤ 50 by decide)
        have h3 : pw 41 = 65536 * pw 40 := pw_succ 40
        have h4 := hyy.out
        unfold Mid; omega)
      have hQ0 := HQ.out.nonneg
      have hR0 := HRr.out.nonneg
      have HQA := hid (show Q + Q ≤ val a by
        have h1 := half_step (val a) j
        have h2 : val a / 2 ^ j ≤ val a := Int.ediv_le_self _ (val_nonneg HC.out.limbs)
        have h3 : 0 ≤ (val a / 2 ^ j) % 2 := Int.emod_nonneg _ (by decide)
        rw [HAq.out] at h1
        have h4 : Q * 1 ≤ Q * y := Int.mul_le_mul_of_nonneg_left (by have := hyy.out; omega) hQ0
        omega)
      have MQ := hid (show Mid Q from MX.out.le (by have := HQA.out; omega))
      have MQQ := hid (show Mid (Q + Q) from MX.out.le HQA.out)
      clear hQ0
      generalize hd : lim a (j / 16) = d at *
      clear hcell hb hd
      have hpw : (0 : Int) < 2 ^ (j % 16) := Int.pow_pos (by decide)
      have he0 : 0 ≤ d / 2 ^ (j % 16) := Int.ediv_nonneg lb.1 (Int.le_of_lt hpw)
      have htm : (d / 2 ^ (j % 16)).tmod 2 = d / 2 ^ (j % 16) % 2 := Int.tmod_eq_emod_of_nonneg he0
      by_cases hb1 : d / 2 ^ (j % 16) % 2 = 1
      · have hte : ((d / 2 ^ (j % 16)).tmod 2 == 1) = true := by rw [htm, hb1]; rfl
        have HB1 := hid hb1
        clear htm hb1 he0 hpw
        go_wp2_with fail
        refine (plus_row _ _ (R + R) 1 _ (R1.out.alloc _) (RowIs.one w1) (MYY.out.le (by have := HRy.out; omega)) M1.out).mono ?_
        rintro e w2 ⟨r2, rfl, hr2, b2⟩
        have R2 := hid hr2
        have T2 := hid ((T1.out.a1 _).below b2)
        have Q2 := hid ((Q1.out.alloc _).below b2)
        clear hr2 b2 c1 cell hte
        go_wp2_with fail
        have mt : R + R + 1 < 2 * y := by have := HRy.out; omega
        have MT := hid (show Mid (R + R + 1) by have := MYY.out; exact this.le (by omega))
        clear mt
        refine (plus_row _ _ Q Q _ Q2.out Q2.out MQ.out MQ.out).mono ?_
        rintro e w3 ⟨q3, rfl, hq3, b3⟩
        have Q3 := hid hq3
        have T3 := hid (T2.out.below b3)
        have R3 := hid (R2.out.below b3)
        clear hq3 b3
        have d1 := T3.out.d1
        go_wp2_with fail
        refine (above_row _ _ (R + R + 1) y _ R3.out (T3.out.rows CR.out) MT.out MY.out).mono ?_
        rintro e w' ⟨rfl, rfl⟩
        dsimp only
        by_cases hge : y ≤ R + R + 1
        · have hcm := cmpOf_ge hge
          have HGE := hid hge
          clear hge
          generalize cmpOf (R + R + 1) y = cm at *
          go_wp2_with fail
          refine (minus_row _ _ (R + R + 1) y _ R3.out (T3.out.rows CR.out) MT.out HGE.out).mono ?_
          rintro e w4 ⟨r4, rfl, hr4, b4⟩
          have R4 := hid hr4
          have T4 := hid (T3.out.below b4)
          have Q4 := hid (Q3.out.below b4)
          clear hr4 b4
          go_wp2_with fail
          refine (plus_row _ _ (Q + Q) 1 _ (Q4.out.alloc _) (RowIs.one _) MQQ.out M1.out).mono ?_
          rintro e w5 ⟨q5, rfl, hq5, b5⟩
          have Q5 := hid hq5
          have T5 := hid ((T4.out.a1 _).below b5)
          have R5 := hid ((R4.out.alloc _).below b5)
          clear hq5 b5
          go_wp2_with fail
          go_roundw
          case rel =>
            refine ⟨j, Q + Q + 1, R + R + 1 - y, by omega, by go_num, Q5.out, R5.out, ?_, by have := HRy.out; omega, T5.out⟩
            have h1 := half_step (val a) j
            rw [BE.out, HAq.out] at h1
            rw [h1, Int.add_mul, Int.add_mul]
            have := HB1.out
            omega
          case measure => simp [intOf]
        · have hcm := Int.not_le.1 (cmpOf_not (Int.not_le.1 hge))
          have HGE := hid (Int.not_le.1 hge)
          clear hge
          generalize cmpOf (R + R + 1) y = cm at *
          go_wp2_with fail
          go_roundw
          case rel =>
            refine ⟨j, Q + Q, R + R + 1, by omega, by go_num, Q3.out, R3.out, ?_, by have := HGE.out; omega, T3.out⟩
            have h1 := half_step (val a) j
            rw [BE.out, HAq.out] at h1
            rw [h1, Int.add_mul]
            have := HB1.out
            omega
          case measure => simp [intOf]
      · have hte : ((d / 2 ^ (j % 16)).tmod 2 == 1) = false := by rw [htm]; simpa using hb1
        have HB1 := hid (show d / 2 ^ (j % 16) % 2 = 0 by omega)
        clear htm hb1 he0 hpw
        go_wp2_with fail
        clear c1 cell hte
        have mt : R + R < 2 * y := by have := HRy.out; omega
        have MT := hid (show Mid (R + R) by have := MYY.out; exact this.le (by omega))
        clear mt
        refine (plus_row _ _ Q Q _ Q1.out Q1.out MQ.out MQ.out).mono ?_
        rintro e w3 ⟨q3, rfl, hq3, b3⟩
        have Q3 := hid hq3
        have T3 := hid (T1.out.below b3)
        have R3 := hid (R1.out.below b3)
        clear hq3 b3
        have d1 := T3.out.d1
        go_wp2_with fail
        refine (above_row _ _ (R + R) y _ R3.out (T3.out.rows CR.out) MT.out MY.out).mono ?_
        rintro e w' ⟨rfl, rfl⟩
        dsimp only
        by_cases hge : y ≤ R + R
        · have hcm := cmpOf_ge hge
          have HGE := hid hge
          clear hge
          generalize cmpOf (R + R) y = cm at *
          go_wp2_with fail
          refine (minus_row _ _ (R + R) y _ R3.out (T3.out.rows CR.out) MT.out HGE.out).mono ?_
          rintro e w4 ⟨r4, rfl, hr4, b4⟩
          have R4 := hid hr4
          have T4 := hid (T3.out.below b4)
          have Q4 := hid (Q3.out.below b4)
          clear hr4 b4
          go_wp2_with fail
          refine (plus_row _ _ (Q + Q) 1 _ (Q4.out.alloc _) (RowIs.one _) MQQ.out M1.out).mono ?_
          rintro e w5 ⟨q5, rfl, hq5, b5⟩
          have Q5 := hid hq5
          have T5 := hid ((T4.out.a1 _).below b5)
          have R5 := hid ((R4.out.alloc _).below b5)
          clear hq5 b5
          go_wp2_with fail
          go_roundw
          case rel =>
            refine ⟨j, Q + Q + 1, R + R - y, by omega, by go_num, Q5.out, R5.out, ?_, by have := HRy.out; omega, T5.out⟩
            have h1 := half_step (val a) j
            rw [BE.out, HAq.out] at h1
            rw [h1, Int.add_mul, Int.add_mul]
            have := HB1.out
            omega
          case measure => simp [intOf]
        · have hcm := Int.not_le.1 (cmpOf_not (Int.not_le.1 hge))
          have HGE := hid (Int.not_le.1 hge)
          clear hge
          generalize cmpOf (R + R) y = cm at *
          go_wp2_with fail
          go_roundw
          case rel =>
            refine ⟨j, Q + Q, R + R, by omega, by go_num, Q3.out, R3.out, ?_, by have := HGE.out; omega, T3.out⟩
            have h1 := half_step (val a) j
            rw [BE.out, HAq.out] at h1
            rw [h1, Int.add_mul]
            have := HB1.out
            omega
          case measure => simp [intOf]
#print axioms div_any
end Go.Proofs.YtjhekggeofalfaaDoor
