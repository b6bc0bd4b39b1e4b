/- Contracts of noonmarkref02.Num, noonmarklaw02.num. -/
import Derived.Test.YtjhekggeofalfaaDoorTotal
namespace Go.Proofs.YtjhekggeofalfaaDoor
open Go.RowKit

theorem canon_word : Canon [0, 0, 0, 0, 1] := ⟨fun d hd => by simp at hd; omega, by simp⟩
theorem val_word : val [0, 0, 0, 0, 1] = 18446744073709551616 := by decide
theorem word_is {w W : World} {l : List (Nat × Obj)} {g : Nat} (h : Blks w W l) (hm : (g, Obj.cells (rowOf [0, 0, 0, 0, 1]) 3 (0, 0)) ∈ l) :
    NumIs W (.agg #[.bool false, .slice (some ⟨g, 0, none⟩) 5 5]) 18446744073709551616 :=
  ⟨_, [0, 0, 0, 0, 1], rfl, h.isRow hm rfl (by decide), canon_word, val_word⟩
theorem small_word : Small 18446744073709551616 := small_of (by decide)
theorem small_of2 {z : Int} (h1 : -340282366920938463463374607431768211456 ≤ z) (h2 : z ≤ 340282366920938463463374607431768211456) : Small z := small_of (by omega)
theorem Fits2.small {z : Int} (h : Fits2 z) : Small z := small_of2 (by have := h.1; omega) (by have := h.2; omega)
/-- Region 2: what each operation leaves. -/
def rnφ (g : Nat) (hi lo : Int) : Nat → Value → World → Prop
  | 0, v, _ => v = .int .i64 hi
  | 1, v, W => NumIs W v hi
  | 2, v, _ => v = .agg #[.bool false, .slice (some ⟨g, 0, none⟩) 5 5]
  | 3, v, W => NumIs W v (hi * 18446744073709551616)
  | 4, v, _ => v = .int .u64 lo
  | 5, v, W => NumIs W v lo
  | 6, v, W => NumIs W v (hi * 18446744073709551616 + lo)
  | _, _, _ => True
theorem rnφ_stable (g : Nat) (hi lo : Int) : ∀ i v W W', Below W.heap.size W W' → rnφ g hi lo i v W → rnφ g hi lo i v W' := by
  intro i v W W' hb h
  match i, h with
  | 0, h => exact h
  | 1, h => exact NumIs.below h hb
  | 2, h => exact h
  | 3, h => exact NumIs.below h hb
  | 4, h => exact h
  | 5, h => exact NumIs.below h hb
  | 6, h => exact NumIs.below h hb
  | _ + 7, _ => trivial

set_option maxRecDepth 100000 in
set_option maxHeartbeats 1000000 in
theorem refNum_any (hi lo : Int) (w : World) (h : Fits hi) (h' : U64 lo) :
    Calls Tryd.prog 37 #[.int .i64 hi, .int .u64 lo] w (NumPost w (hi * 18446744073709551616 + lo)) := by
  have HF := hid h
  have HU := hid h'
  have SH := hid (show Small (hi * 18446744073709551616) from small_of (by obtain ⟨h1, h2⟩ := h; omega))
  have SL := hid (show Small lo from small_of (by obtain ⟨h1, h2⟩ := h'; omega))
  clear h h'
  have HB := hid (Blks.three w (.cells #[.bool false, .slice none 0 0] 34) (.cells (rowOf [0, 0, 0, 0, 1]) 3) (.cells #[.bool false, .slice (some ⟨w.heap.size + 1, 0, none⟩) 5 5] 34))
  go_enter Tryd.func37, Tryd.ntmps37
  go_wp2_with fail
  refine wp_blks w [(w.heap.size + 1 + 1, Obj.cells #[.bool false, .slice (some ⟨w.heap.size + 1, 0, none⟩) 5 5] 34 (0, 0)), (w.heap.size + 1, Obj.cells (rowOf [0, 0, 0, 0, 1]) 3 (0, 0)), (w.heap.size, Obj.cells #[.bool false, .slice none 0 0] 34 (0, 0))] HB.out ?_
  clear HB
  intro W hB
  have B := hid hB
  clear hB
  generalize hl : [(w.heap.size + 1 + 1, Obj.cells #[.bool false, .slice (some ⟨w.heap.size + 1, 0, none⟩) 5 5] 34 (0, 0)), (w.heap.size + 1, Obj.cells (rowOf [0, 0, 0, 0, 1]) 3 (0, 0)), (w.heap.size, Obj.cells #[.bool false, .slice none 0 0] 34 (0, 0))] = l at B
  have HL := hid hl.symm
  clear hl
  refine wp_region_each w l 7 (rnφ (w.heap.size + 1) hi lo) B.out _ rfl (by kernel_rfl) (by kernel_rfl) (rnφ_stable (w.heap.size + 1) hi lo) ?_ ?_
  · simp only [List.take_succ_cons, List.take_zero]
    refine ⟨fun x W K hB hd hK => ?_, fun x W K hB hd hK => ?_, fun x W K hB hd hK => ?_, fun x W K hB hd hK => ?_, fun x W K hB hd hK => ?_, fun x W K hB hd hK => ?_, fun x W K hB hd hK => ?_, trivial⟩
    · simp only [puts, Act.put, List.setIfInBounds_toArray, List.set_cons_zero, List.set_cons_succ, Nat.reduceAdd, Nat.zero_add] at hK ⊢
      clear hd
      generalize x 0 = x0 at *
      generalize x 1 = x1 at *
      generalize x 2 = x2 at *
      generalize x 3 = x3 at *
      generalize x 4 = x4 at *
      generalize x 5 = x5 at *
      generalize x 6 = x6 at *
      go_simp
      exact hK _ _ (Below.refl _ _) rfl
    · simp only [puts, Act.put, List.setIfInBounds_toArray, List.set_cons_zero, List.set_cons_succ, Nat.reduceAdd, Nat.zero_add] at hK ⊢
      have d0 : x 0 = .int .i64 hi := hd 0 (by decide)
      clear hd
      generalize x 0 = x0 at *
      generalize x 1 = x1 at *
      generalize x 2 = x2 at *
      generalize x 3 = x3 at *
      generalize x 4 = x4 at *
      generalize x 5 = x5 at *
      generalize x 6 = x6 at *
      subst d0
      go_simp
      refine (of_any hi _ HF.out).mono ?_
      rintro e w2 ⟨v2, rfl, n2, b2⟩
      exact hK v2 w2 b2 n2
    · simp only [puts, Act.put, List.setIfInBounds_toArray, List.set_cons_zero, List.set_cons_succ, Nat.reduceAdd, Nat.zero_add] at hK ⊢
      clear hd
      generalize x 0 = x0 at *
      generalize x 1 = x1 at *
      generalize x 2 = x2 at *
      generalize x 3 = x3 at *
      generalize x 4 = x4 at *
      generalize x 5 = x5 at *
      generalize x 6 = x6 at *
      obtain ⟨c0, c1⟩ := hB.c2 (by rw [HL.out]; exact mem0)
      go_simp
      exact hK _ _ (Below.refl _ _) rfl
    · simp only [puts, Act.put, List.setIfInBounds_toArray, List.set_cons_zero, List.set_cons_succ, Nat.reduceAdd, Nat.zero_add] at hK ⊢
      have d1 : NumIs W (x 1) hi := hd 1 (by decide)
      have d2 : x 2 = .agg #[.bool false, .slice (some ⟨w.heap.size + 1, 0, none⟩) 5 5] := hd 2 (by decide)
      clear hd
      generalize x 0 = x0 at *
      generalize x 1 = x1 at *
      generalize x 2 = x2 at *
      generalize x 3 = x3 at *
      generalize x 4 = x4 at *
      generalize x 5 = x5 at *
      generalize x 6 = x6 at *
      have D1 := hid d1
      clear d1
      subst d2
      go_simp
      refine (mul_any _ _ hi _ _ D1.out (word_is hB (by rw [HL.out]; exact mem1)) HF.out.small small_word).mono ?_
      rintro e w2 ⟨v2, rfl, n2, b2⟩
      exact hK v2 w2 b2 n2
    · simp only [puts, Act.put, List.setIfInBounds_toArray, List.set_cons_zero, List.set_cons_succ, Nat.reduceAdd, Nat.zero_add] at hK ⊢
      clear hd
      generalize x 0 = x0 at *
      generalize x 1 = x1 at *
      generalize x 2 = x2 at *
      generalize x 3 = x3 at *
      generalize x 4 = x4 at *
      generalize x 5 = x5 at *
      generalize x 6 = x6 at *
      go_simp
      exact hK _ _ (Below.refl _ _) rfl
    · simp only [puts, Act.put, List.setIfInBounds_toArray, List.set_cons_zero, List.set_cons_succ, Nat.reduceAdd, Nat.zero_add] at hK ⊢
      have d4 : x 4 = .int .u64 lo := hd 4 (by decide)
      clear hd
      generalize x 0 = x0 at *
      generalize x 1 = x1 at *
      generalize x 2 = x2 at *
      generalize x 3 = x3 at *
      generalize x 4 = x4 at *
      generalize x 5 = x5 at *
      generalize x 6 = x6 at *
      subst d4
      go_simp
      refine (whole_any lo _ HU.out).mono ?_
      rintro e w2 ⟨v2, rfl, n2, b2⟩
      exact hK v2 w2 b2 n2
    · simp only [puts, Act.put, List.setIfInBounds_toArray, List.set_cons_zero, List.set_cons_succ, Nat.reduceAdd, Nat.zero_add] at hK ⊢
      have d3 : NumIs W (x 3) (hi * 18446744073709551616) := hd 3 (by decide)
      have d5 : NumIs W (x 5) lo := hd 5 (by decide)
      clear hd
      generalize x 0 = x0 at *
      generalize x 1 = x1 at *
      generalize x 2 = x2 at *
      generalize x 3 = x3 at *
      generalize x 4 = x4 at *
      generalize x 5 = x5 at *
      generalize x 6 = x6 at *
      have D3 := hid d3
      clear d3
      have D5 := hid d5
      clear d5
      go_simp
      refine (add_any _ _ _ lo _ D3.out D5.out SH.out SL.out).mono ?_
      rintro e w2 ⟨v2, rfl, n2, b2⟩
      exact hK v2 w2 b2 n2
  · intro x W hB hd
    have d6 : NumIs W (x 6) (hi * 18446744073709551616 + lo) := hd 6 (by decide)
    clear hd
    simp only [List.take_succ_cons, List.take_zero]
    simp only [puts, Act.put, List.setIfInBounds_toArray, List.set_cons_zero, List.set_cons_succ, Nat.reduceAdd, Nat.zero_add]
    generalize x 0 = x0 at *
    generalize x 1 = x1 at *
    generalize x 2 = x2 at *
    generalize x 3 = x3 at *
    generalize x 4 = x4 at *
    generalize x 5 = x5 at *
    generalize x 6 = x6 at *
    have N6 := hid d6
    obtain ⟨s6, ds6, rfl, hr6, -⟩ := d6
    obtain ⟨A6, c6, rfl, -⟩ := hr6
    obtain ⟨q0, q1⟩ := hB.c2 (by rw [HL.out]; exact mem2)
    have z0 := hB.fz (by rw [HL.out]; exact mem2) 0
    have z1 := hB.fz (by rw [HL.out]; exact mem2) 1
    have D := hid (res_done (w := w) (g := w.heap.size) hB.bel (by omega) (hB.at_ (by rw [HL.out]; exact mem2)) N6.out)
    generalize hi * 18446744073709551616 + lo = z at *
    clear B
    go_simp
    go_wp2_with fail
    exact bodyPost_ret (v := .agg #[.bool (decide (z < 0)), .slice A6 ds6.length c6]) (by simp [results, Tryd.results37, go_sem, q0, q1]) rfl ⟨_, rfl, D.out.1, D.out.2⟩
end Go.Proofs.YtjhekggeofalfaaDoor
