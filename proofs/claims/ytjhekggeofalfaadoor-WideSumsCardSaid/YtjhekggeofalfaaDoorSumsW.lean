/- noonmarklaw02.WideSums returns true at every input and writes nothing that was there. -/
import Derived.Test.YtjhekggeofalfaaDoorAliveW
import Derived.Test.YtjhekggeofalfaaDoorWildG
import Derived.Deep.DeepCutAuto
namespace Go.Proofs.YtjhekggeofalfaaDoor
open Go.RowKit

theorem mul_fits2 {x y : Int} (hx : Fits x) (hy : Fits y) : Fits2 (x * y) := by
  obtain ⟨p0, p1, p2⟩ := times_words hx hy
  have : (x * y).natAbs = x.natAbs * y.natAbs := Int.natAbs_mul x y
  exact ⟨by omega, by omega⟩
theorem Fits2.mid {z : Int} (h : Fits2 z) : Mid150 z := by obtain ⟨h1, h2⟩ := h; unfold Mid150; omega
theorem Fits.two {z : Int} (h : Fits z) : Fits2 z := by obtain ⟨h1, h2⟩ := h; exact ⟨by omega, by omega⟩
theorem sumI_fits2 (xs : List Int) (hf : ∀ x ∈ xs, Fits x) (h : xs.length ≤ 100) : Fits2 (sumI xs) := by
  have := sumI_bound xs hf
  exact ⟨by omega, by omega⟩
/-- 'same' at a wide number and the same number of the references. -/
theorem same_yes (z : Int) (h : Fits2 z) (v : Value) (W : World) (hv : NumIs W v z) :
    Calls Tryd.prog 14 #[wideV z, .int .i64 0, v] W fun e w' => e = .returned (.bool true) ∧ Below W.heap.size W w' := by
  have := same_any v z W hv h.mid
  rwa [sat2_yes h, err2_yes h] at this
theorem IsLongs.drew {w : World} {v : Value} {xs : List Int} (h : IsLongs w v xs) : IsLongs w.drew v xs := h
/-- Region 6: what each operation leaves. -/
def suφ (a b : Int) (p : Bool) (s : Value) (A : Option Addr) (n c : Nat) (xs : List Int) : Nat → Value → World → Prop
  | 0, v, _ => v = .int .i64 a
  | 1, v, _ => v = wideV a
  | 2, v, _ => v = .int .i64 a
  | 3, v, W => NumIs W v a
  | 4, v, _ => v = .bool true
  | 5, v, _ => v = .bool true
  | 6, v, _ => v = .int .i64 a
  | 7, v, _ => v = .int .i64 b
  | 8, v, _ => v = wideV (a * b)
  | 9, v, _ => v = .agg #[.bool p, s]
  | 10, v, _ => v = .bool true
  | 11, v, _ => v = .bool true
  | 12, v, _ => v = .bool true
  | 13, v, _ => v = .slice A n c
  | 14, v, W => IsLongs W v xs
  | 15, v, _ => v = wideV (sumI xs)
  | 16, v, _ => v = .slice A n c
  | 17, v, W => NumIs W v (sumI xs)
  | 18, v, _ => v = .bool true
  | 19, v, _ => v = .bool true
  | _, _, _ => True
theorem suφ_stable (a b : Int) (p : Bool) (s : Value) (A : Option Addr) (n c : Nat) (xs : List Int) : ∀ i v W W', Below W.heap.size W W' → suφ a b p s A n c xs i v W → suφ a b p s A n c xs i v W' := by
  intro i v W W' hb h
  match i, h with
  | 0, h => exact h
  | 1, h => exact h
  | 2, h => exact h
  | 3, h => exact NumIs.below h hb
  | 4, h => exact h
  | 5, h => exact h
  | 6, h => exact h
  | 7, h => exact h
  | 8, h => exact h
  | 9, h => exact h
  | 10, h => exact h
  | 11, h => exact h
  | 12, h => exact h
  | 13, h => exact h
  | 14, h => exact IsLongs.below h hb
  | 15, h => exact h
  | 16, h => exact h
  | 17, h => exact NumIs.below h hb
  | 18, h => exact h
  | 19, h => exact h
  | _ + 20, _ => trivial

set_option maxRecDepth 100000 in
set_option maxHeartbeats 4000000 in
theorem wideSums_any (a b : Int) (A : Option Addr) (n c : Nat) (xs : List Int) (w : World) (htab : PowTab w) (ha : Fits a) (hb : Fits b) (hA : A = none → n = 0 ∧ c = 0) (h : IsLongs w (.slice A n c) xs) (hn : xs.length = n) (hf : ∀ x ∈ xs, Fits x) :
    Calls Tryd.prog 4 #[.int .i64 a, .int .i64 b, .slice A n c] w fun e w' => e = .returned (.bool true) ∧ Below w.heap.size w w' := by
  have HA := hid ha
  have HB := hid hb
  have HAN := hid hA
  have HX := hid h
  have HN := hid hn
  have HF := hid hf
  have hnm : n ≤ 9223372036854775807 := by
    obtain ⟨A', c', hv, hl, hm, -⟩ := h
    injection hv with _ hv1 hv2
    unfold maxLen at hm
    omega
  have T := hid htab
  clear ha hb hA h hn hf htab
  go_enter Tryd.func4, Tryd.ntmps4
  go_wp2_with fail
  refine (alive_any _ T.out).mono ?_
  rintro e w1 ⟨rfl, b1⟩
  have B := hid ((Blks.nil w).below b1)
  clear b1 T
  by_cases h100 : 100 < n
  · go_wp2_with fail
    go_ret
    exact ⟨rfl, B.out.bel⟩
  · go_wp2_with fail
    refine (of_any a _ HA.out).mono ?_
    rintro e w2 ⟨v2, rfl, n2, b2⟩
    replace B := hid (B.out.below b2)
    clear b2
    have N2 := hid n2
    clear n2
    go_wp2_with fail
    refine (of_any b _ HB.out).mono ?_
    rintro e w3 ⟨v3, rfl, n3, b3⟩
    replace B := hid (B.out.below b3)
    replace N2 := hid (N2.out.below b3)
    clear b3
    have N3 := hid n3
    clear n3
    go_wp2_with fail
    refine (mul_any v2 v3 a b _ N2.out N3.out HA.out.small HB.out.small).mono ?_
    rintro e w4 ⟨v4, rfl, n4, b4⟩
    have N4 := hid n4
    obtain ⟨s4, d4, rfl, hr4, -⟩ := n4
    obtain ⟨A4, c4, rfl, -⟩ := hr4
    replace B := hid ((B.out.below b4).add (.cells #[.bool (decide (a * b < 0)), .slice A4 d4.length c4] 34))
    replace N4 := hid (N4.out.alloc (.cells #[.bool (decide (a * b < 0)), .slice A4 d4.length c4] 34))
    clear b4 N2 N3
    go_upto_region 6 with fail
    generalize decide (a * b < 0) = p at *
    generalize Value.slice A4 d4.length c4 = s at *
    refine wp_world (fun W5 => Hid (Blks w W5 [(w4.heap.size, Obj.cells #[.bool p, s] 34 (0, 0))]) ∧ Hid (NumIs W5 (.agg #[.bool p, s]) (a * b))) ⟨B, N4⟩ ?_
    clear B N4
    intro W5 hw5
    have B := hw5.1
    have N4 := hw5.2
    clear hw5
    have BW := hid B.out.bel
    replace B := hid (show Blks W5 W5 [(w4.heap.size, Obj.cells #[.bool p, s] 34 (0, 0))] from ⟨Below.refl _ _, B.out.2⟩)
    replace HX := hid (HX.out.below BW.out)

    have hln : xs.length ≤ 100 := by have := HN.out; omega
    have HLN := hid hln
    clear hln
    refine wp_region_guard W5 [(w4.heap.size, Obj.cells #[.bool p, s] 34 (0, 0))] 20 [(5, true), (12, true)] 38 (suφ a b p s A n c xs) B.out _ rfl (by kernel_rfl) (by rfl) (by kernel_rfl) ?_ (suφ_stable a b p s A n c xs) ?_ ?_
    · intro g hgm v W hv
      simp only [List.mem_cons, List.not_mem_nil, or_false] at hgm
      rcases hgm with rfl | rfl <;> exact hv
    · simp only [List.take_succ_cons, List.take_zero]
      refine ⟨fun x W K hB hd hK => ?_, fun x W K hB hd hK => ?_, fun x W K hB hd hK => ?_, fun x W K hB hd hK => ?_, fun x W K hB hd hK => ?_, fun x W K hB hd hK => ?_, fun x W K hB hd hK => ?_, fun x W K hB hd hK => ?_, fun x W K hB hd hK => ?_, fun x W K hB hd hK => ?_, fun x W K hB hd hK => ?_, fun x W K hB hd hK => ?_, fun x W K hB hd hK => ?_, fun x W K hB hd hK => ?_, fun x W K hB hd hK => ?_, fun x W K hB hd hK => ?_, fun x W K hB hd hK => ?_, fun x W K hB hd hK => ?_, fun x W K hB hd hK => ?_, fun x W K hB hd hK => ?_, trivial⟩
      · simp only [puts, Act.put, List.setIfInBounds_toArray, List.set_cons_zero, List.set_cons_succ, Nat.reduceAdd, Nat.zero_add] at hK ⊢
        clear hd
        generalize x 0 = x0 at *
        generalize x 1 = x1 at *
        generalize x 2 = x2 at *
        generalize x 3 = x3 at *
        generalize x 4 = x4 at *
        generalize x 5 = x5 at *
        generalize x 6 = x6 at *
        generalize x 7 = x7 at *
        generalize x 8 = x8 at *
        generalize x 9 = x9 at *
        generalize x 10 = x10 at *
        generalize x 11 = x11 at *
        generalize x 12 = x12 at *
        generalize x 13 = x13 at *
        generalize x 14 = x14 at *
        generalize x 15 = x15 at *
        generalize x 16 = x16 at *
        generalize x 17 = x17 at *
        generalize x 18 = x18 at *
        generalize x 19 = x19 at *
        go_simp
        exact hK _ _ (Below.refl _ _) rfl
      · simp only [puts, Act.put, List.setIfInBounds_toArray, List.set_cons_zero, List.set_cons_succ, Nat.reduceAdd, Nat.zero_add] at hK ⊢
        have d0 : x 0 = .int .i64 a := hd 0 (by decide)
        clear hd
        generalize x 0 = x0 at *
        generalize x 1 = x1 at *
        generalize x 2 = x2 at *
        generalize x 3 = x3 at *
        generalize x 4 = x4 at *
        generalize x 5 = x5 at *
        generalize x 6 = x6 at *
        generalize x 7 = x7 at *
        generalize x 8 = x8 at *
        generalize x 9 = x9 at *
        generalize x 10 = x10 at *
        generalize x 11 = x11 at *
        generalize x 12 = x12 at *
        generalize x 13 = x13 at *
        generalize x 14 = x14 at *
        generalize x 15 = x15 at *
        generalize x 16 = x16 at *
        generalize x 17 = x17 at *
        generalize x 18 = x18 at *
        generalize x 19 = x19 at *
        subst d0
        go_simp
        refine (wideOf_any a _ HA.out).mono ?_
        rintro e w2 ⟨rfl, b2⟩
        exact hK _ w2 b2 rfl
      · simp only [puts, Act.put, List.setIfInBounds_toArray, List.set_cons_zero, List.set_cons_succ, Nat.reduceAdd, Nat.zero_add] at hK ⊢
        clear hd
        generalize x 0 = x0 at *
        generalize x 1 = x1 at *
        generalize x 2 = x2 at *
        generalize x 3 = x3 at *
        generalize x 4 = x4 at *
        generalize x 5 = x5 at *
        generalize x 6 = x6 at *
        generalize x 7 = x7 at *
        generalize x 8 = x8 at *
        generalize x 9 = x9 at *
        generalize x 10 = x10 at *
        generalize x 11 = x11 at *
        generalize x 12 = x12 at *
        generalize x 13 = x13 at *
        generalize x 14 = x14 at *
        generalize x 15 = x15 at *
        generalize x 16 = x16 at *
        generalize x 17 = x17 at *
        generalize x 18 = x18 at *
        generalize x 19 = x19 at *
        go_simp
        exact hK _ _ (Below.refl _ _) rfl
      · simp only [puts, Act.put, List.setIfInBounds_toArray, List.set_cons_zero, List.set_cons_succ, Nat.reduceAdd, Nat.zero_add] at hK ⊢
        have d2 : x 2 = .int .i64 a := hd 2 (by decide)
        clear hd
        generalize x 0 = x0 at *
        generalize x 1 = x1 at *
        generalize x 2 = x2 at *
        generalize x 3 = x3 at *
        generalize x 4 = x4 at *
        generalize x 5 = x5 at *
        generalize x 6 = x6 at *
        generalize x 7 = x7 at *
        generalize x 8 = x8 at *
        generalize x 9 = x9 at *
        generalize x 10 = x10 at *
        generalize x 11 = x11 at *
        generalize x 12 = x12 at *
        generalize x 13 = x13 at *
        generalize x 14 = x14 at *
        generalize x 15 = x15 at *
        generalize x 16 = x16 at *
        generalize x 17 = x17 at *
        generalize x 18 = x18 at *
        generalize x 19 = x19 at *
        subst d2
        go_simp
        refine (of_any a _ HA.out).mono ?_
        rintro e w2 ⟨v2, rfl, n2, b2⟩
        exact hK v2 w2 b2 n2
      · simp only [puts, Act.put, List.setIfInBounds_toArray, List.set_cons_zero, List.set_cons_succ, Nat.reduceAdd, Nat.zero_add] at hK ⊢
        have d1 : x 1 = wideV a := hd 1 (by decide)
        have d3 : NumIs W (x 3) a := hd 3 (by decide)
        clear hd
        generalize x 0 = x0 at *
        generalize x 1 = x1 at *
        generalize x 2 = x2 at *
        generalize x 3 = x3 at *
        generalize x 4 = x4 at *
        generalize x 5 = x5 at *
        generalize x 6 = x6 at *
        generalize x 7 = x7 at *
        generalize x 8 = x8 at *
        generalize x 9 = x9 at *
        generalize x 10 = x10 at *
        generalize x 11 = x11 at *
        generalize x 12 = x12 at *
        generalize x 13 = x13 at *
        generalize x 14 = x14 at *
        generalize x 15 = x15 at *
        generalize x 16 = x16 at *
        generalize x 17 = x17 at *
        generalize x 18 = x18 at *
        generalize x 19 = x19 at *
        subst d1
        have D3 := hid d3
        clear d3
        go_simp
        refine (same_yes a HA.out.two _ _ D3.out).mono ?_
        rintro e w2 ⟨rfl, b2⟩
        exact hK _ w2 b2 rfl
      · simp only [puts, Act.put, List.setIfInBounds_toArray, List.set_cons_zero, List.set_cons_succ, Nat.reduceAdd, Nat.zero_add] at hK ⊢
        have d4 : x 4 = .bool true := hd 4 (by decide)
        clear hd
        generalize x 0 = x0 at *
        generalize x 1 = x1 at *
        generalize x 2 = x2 at *
        generalize x 3 = x3 at *
        generalize x 4 = x4 at *
        generalize x 5 = x5 at *
        generalize x 6 = x6 at *
        generalize x 7 = x7 at *
        generalize x 8 = x8 at *
        generalize x 9 = x9 at *
        generalize x 10 = x10 at *
        generalize x 11 = x11 at *
        generalize x 12 = x12 at *
        generalize x 13 = x13 at *
        generalize x 14 = x14 at *
        generalize x 15 = x15 at *
        generalize x 16 = x16 at *
        generalize x 17 = x17 at *
        generalize x 18 = x18 at *
        generalize x 19 = x19 at *
        subst d4
        go_simp
        exact hK _ _ (Below.refl _ _) rfl
      · simp only [puts, Act.put, List.setIfInBounds_toArray, List.set_cons_zero, List.set_cons_succ, Nat.reduceAdd, Nat.zero_add] at hK ⊢
        clear hd
        generalize x 0 = x0 at *
        generalize x 1 = x1 at *
        generalize x 2 = x2 at *
        generalize x 3 = x3 at *
        generalize x 4 = x4 at *
        generalize x 5 = x5 at *
        generalize x 6 = x6 at *
        generalize x 7 = x7 at *
        generalize x 8 = x8 at *
        generalize x 9 = x9 at *
        generalize x 10 = x10 at *
        generalize x 11 = x11 at *
        generalize x 12 = x12 at *
        generalize x 13 = x13 at *
        generalize x 14 = x14 at *
        generalize x 15 = x15 at *
        generalize x 16 = x16 at *
        generalize x 17 = x17 at *
        generalize x 18 = x18 at *
        generalize x 19 = x19 at *
        go_simp
        exact hK _ _ (Below.refl _ _) rfl
      · simp only [puts, Act.put, List.setIfInBounds_toArray, List.set_cons_zero, List.set_cons_succ, Nat.reduceAdd, Nat.zero_add] at hK ⊢
        clear hd
        generalize x 0 = x0 at *
        generalize x 1 = x1 at *
        generalize x 2 = x2 at *
        generalize x 3 = x3 at *
        generalize x 4 = x4 at *
        generalize x 5 = x5 at *
        generalize x 6 = x6 at *
        generalize x 7 = x7 at *
        generalize x 8 = x8 at *
        generalize x 9 = x9 at *
        generalize x 10 = x10 at *
        generalize x 11 = x11 at *
        generalize x 12 = x12 at *
        generalize x 13 = x13 at *
        generalize x 14 = x14 at *
        generalize x 15 = x15 at *
        generalize x 16 = x16 at *
        generalize x 17 = x17 at *
        generalize x 18 = x18 at *
        generalize x 19 = x19 at *
        go_simp
        exact hK _ _ (Below.refl _ _) rfl
      · simp only [puts, Act.put, List.setIfInBounds_toArray, List.set_cons_zero, List.set_cons_succ, Nat.reduceAdd, Nat.zero_add] at hK ⊢
        have d6 : x 6 = .int .i64 a := hd 6 (by decide)
        have d7 : x 7 = .int .i64 b := hd 7 (by decide)
        clear hd
        generalize x 0 = x0 at *
        generalize x 1 = x1 at *
        generalize x 2 = x2 at *
        generalize x 3 = x3 at *
        generalize x 4 = x4 at *
        generalize x 5 = x5 at *
        generalize x 6 = x6 at *
        generalize x 7 = x7 at *
        generalize x 8 = x8 at *
        generalize x 9 = x9 at *
        generalize x 10 = x10 at *
        generalize x 11 = x11 at *
        generalize x 12 = x12 at *
        generalize x 13 = x13 at *
        generalize x 14 = x14 at *
        generalize x 15 = x15 at *
        generalize x 16 = x16 at *
        generalize x 17 = x17 at *
        generalize x 18 = x18 at *
        generalize x 19 = x19 at *
        subst d6
        subst d7
        go_simp
        refine (wideTimes_any a b _ HA.out HB.out).mono ?_
        rintro e w2 ⟨rfl, b2⟩
        exact hK _ w2 b2 rfl
      · simp only [puts, Act.put, List.setIfInBounds_toArray, List.set_cons_zero, List.set_cons_succ, Nat.reduceAdd, Nat.zero_add] at hK ⊢
        clear hd
        generalize x 0 = x0 at *
        generalize x 1 = x1 at *
        generalize x 2 = x2 at *
        generalize x 3 = x3 at *
        generalize x 4 = x4 at *
        generalize x 5 = x5 at *
        generalize x 6 = x6 at *
        generalize x 7 = x7 at *
        generalize x 8 = x8 at *
        generalize x 9 = x9 at *
        generalize x 10 = x10 at *
        generalize x 11 = x11 at *
        generalize x 12 = x12 at *
        generalize x 13 = x13 at *
        generalize x 14 = x14 at *
        generalize x 15 = x15 at *
        generalize x 16 = x16 at *
        generalize x 17 = x17 at *
        generalize x 18 = x18 at *
        generalize x 19 = x19 at *
        obtain ⟨c0, c1⟩ := hB.c2 mem0
        go_simp
        exact hK _ _ (Below.refl _ _) rfl
      · simp only [puts, Act.put, List.setIfInBounds_toArray, List.set_cons_zero, List.set_cons_succ, Nat.reduceAdd, Nat.zero_add] at hK ⊢
        have d8 : x 8 = wideV (a * b) := hd 8 (by decide)
        have d9 : x 9 = .agg #[.bool p, s] := hd 9 (by decide)
        clear hd
        generalize x 0 = x0 at *
        generalize x 1 = x1 at *
        generalize x 2 = x2 at *
        generalize x 3 = x3 at *
        generalize x 4 = x4 at *
        generalize x 5 = x5 at *
        generalize x 6 = x6 at *
        generalize x 7 = x7 at *
        generalize x 8 = x8 at *
        generalize x 9 = x9 at *
        generalize x 10 = x10 at *
        generalize x 11 = x11 at *
        generalize x 12 = x12 at *
        generalize x 13 = x13 at *
        generalize x 14 = x14 at *
        generalize x 15 = x15 at *
        generalize x 16 = x16 at *
        generalize x 17 = x17 at *
        generalize x 18 = x18 at *
        generalize x 19 = x19 at *
        subst d8
        subst d9
        go_simp
        refine (same_yes (a * b) (mul_fits2 HA.out HB.out) _ _ (N4.out.below hB.bel)).mono ?_
        rintro e w2 ⟨rfl, b2⟩
        exact hK _ w2 b2 rfl
      · simp only [puts, Act.put, List.setIfInBounds_toArray, List.set_cons_zero, List.set_cons_succ, Nat.reduceAdd, Nat.zero_add] at hK ⊢
        have d5 : x 5 = .bool true := hd 5 (by decide)
        have d10 : x 10 = .bool true := hd 10 (by decide)
        clear hd
        generalize x 0 = x0 at *
        generalize x 1 = x1 at *
        generalize x 2 = x2 at *
        generalize x 3 = x3 at *
        generalize x 4 = x4 at *
        generalize x 5 = x5 at *
        generalize x 6 = x6 at *
        generalize x 7 = x7 at *
        generalize x 8 = x8 at *
        generalize x 9 = x9 at *
        generalize x 10 = x10 at *
        generalize x 11 = x11 at *
        generalize x 12 = x12 at *
        generalize x 13 = x13 at *
        generalize x 14 = x14 at *
        generalize x 15 = x15 at *
        generalize x 16 = x16 at *
        generalize x 17 = x17 at *
        generalize x 18 = x18 at *
        generalize x 19 = x19 at *
        subst d5
        subst d10
        go_simp
        exact hK _ _ (Below.refl _ _) rfl
      · simp only [puts, Act.put, List.setIfInBounds_toArray, List.set_cons_zero, List.set_cons_succ, Nat.reduceAdd, Nat.zero_add] at hK ⊢
        have d11 : x 11 = .bool true := hd 11 (by decide)
        clear hd
        generalize x 0 = x0 at *
        generalize x 1 = x1 at *
        generalize x 2 = x2 at *
        generalize x 3 = x3 at *
        generalize x 4 = x4 at *
        generalize x 5 = x5 at *
        generalize x 6 = x6 at *
        generalize x 7 = x7 at *
        generalize x 8 = x8 at *
        generalize x 9 = x9 at *
        generalize x 10 = x10 at *
        generalize x 11 = x11 at *
        generalize x 12 = x12 at *
        generalize x 13 = x13 at *
        generalize x 14 = x14 at *
        generalize x 15 = x15 at *
        generalize x 16 = x16 at *
        generalize x 17 = x17 at *
        generalize x 18 = x18 at *
        generalize x 19 = x19 at *
        subst d11
        go_simp
        exact hK _ _ (Below.refl _ _) rfl
      · simp only [puts, Act.put, List.setIfInBounds_toArray, List.set_cons_zero, List.set_cons_succ, Nat.reduceAdd, Nat.zero_add] at hK ⊢
        clear hd
        generalize x 0 = x0 at *
        generalize x 1 = x1 at *
        generalize x 2 = x2 at *
        generalize x 3 = x3 at *
        generalize x 4 = x4 at *
        generalize x 5 = x5 at *
        generalize x 6 = x6 at *
        generalize x 7 = x7 at *
        generalize x 8 = x8 at *
        generalize x 9 = x9 at *
        generalize x 10 = x10 at *
        generalize x 11 = x11 at *
        generalize x 12 = x12 at *
        generalize x 13 = x13 at *
        generalize x 14 = x14 at *
        generalize x 15 = x15 at *
        generalize x 16 = x16 at *
        generalize x 17 = x17 at *
        generalize x 18 = x18 at *
        generalize x 19 = x19 at *
        go_simp
        exact hK _ _ (Below.refl _ _) rfl
      · simp only [puts, Act.put, List.setIfInBounds_toArray, List.set_cons_zero, List.set_cons_succ, Nat.reduceAdd, Nat.zero_add] at hK ⊢
        have d13 : x 13 = .slice A n c := hd 13 (by decide)
        clear hd
        generalize x 0 = x0 at *
        generalize x 1 = x1 at *
        generalize x 2 = x2 at *
        generalize x 3 = x3 at *
        generalize x 4 = x4 at *
        generalize x 5 = x5 at *
        generalize x 6 = x6 at *
        generalize x 7 = x7 at *
        generalize x 8 = x8 at *
        generalize x 9 = x9 at *
        generalize x 10 = x10 at *
        generalize x 11 = x11 at *
        generalize x 12 = x12 at *
        generalize x 13 = x13 at *
        generalize x 14 = x14 at *
        generalize x 15 = x15 at *
        generalize x 16 = x16 at *
        generalize x 17 = x17 at *
        generalize x 18 = x18 at *
        generalize x 19 = x19 at *
        subst d13
        go_simp
        refine (copyLongs_any A n c xs _ HAN.out HN.out (by omega) (HX.out.below hB.bel)).mono ?_
        rintro e w9 ⟨v9, rfl, l9, b9⟩
        exact hK v9 w9 b9 (IsLongs.of_own HN.out l9)
      · simp only [puts, Act.put, List.setIfInBounds_toArray, List.set_cons_zero, List.set_cons_succ, Nat.reduceAdd, Nat.zero_add] at hK ⊢
        have d14 : IsLongs W (x 14) xs := hd 14 (by decide)
        clear hd
        generalize x 0 = x0 at *
        generalize x 1 = x1 at *
        generalize x 2 = x2 at *
        generalize x 3 = x3 at *
        generalize x 4 = x4 at *
        generalize x 5 = x5 at *
        generalize x 6 = x6 at *
        generalize x 7 = x7 at *
        generalize x 8 = x8 at *
        generalize x 9 = x9 at *
        generalize x 10 = x10 at *
        generalize x 11 = x11 at *
        generalize x 12 = x12 at *
        generalize x 13 = x13 at *
        generalize x 14 = x14 at *
        generalize x 15 = x15 at *
        generalize x 16 = x16 at *
        generalize x 17 = x17 at *
        generalize x 18 = x18 at *
        generalize x 19 = x19 at *
        have D14 := hid d14
        clear d14
        go_simp
        refine (wideSum_any _ xs _ D14.out HF.out).mono ?_
        rintro e w2 ⟨rfl, b2⟩
        exact hK _ w2 b2 rfl
      · simp only [puts, Act.put, List.setIfInBounds_toArray, List.set_cons_zero, List.set_cons_succ, Nat.reduceAdd, Nat.zero_add] at hK ⊢
        clear hd
        generalize x 0 = x0 at *
        generalize x 1 = x1 at *
        generalize x 2 = x2 at *
        generalize x 3 = x3 at *
        generalize x 4 = x4 at *
        generalize x 5 = x5 at *
        generalize x 6 = x6 at *
        generalize x 7 = x7 at *
        generalize x 8 = x8 at *
        generalize x 9 = x9 at *
        generalize x 10 = x10 at *
        generalize x 11 = x11 at *
        generalize x 12 = x12 at *
        generalize x 13 = x13 at *
        generalize x 14 = x14 at *
        generalize x 15 = x15 at *
        generalize x 16 = x16 at *
        generalize x 17 = x17 at *
        generalize x 18 = x18 at *
        generalize x 19 = x19 at *
        go_simp
        exact hK _ _ (Below.refl _ _) rfl
      · simp only [puts, Act.put, List.setIfInBounds_toArray, List.set_cons_zero, List.set_cons_succ, Nat.reduceAdd, Nat.zero_add] at hK ⊢
        have d16 : x 16 = .slice A n c := hd 16 (by decide)
        clear hd
        generalize x 0 = x0 at *
        generalize x 1 = x1 at *
        generalize x 2 = x2 at *
        generalize x 3 = x3 at *
        generalize x 4 = x4 at *
        generalize x 5 = x5 at *
        generalize x 6 = x6 at *
        generalize x 7 = x7 at *
        generalize x 8 = x8 at *
        generalize x 9 = x9 at *
        generalize x 10 = x10 at *
        generalize x 11 = x11 at *
        generalize x 12 = x12 at *
        generalize x 13 = x13 at *
        generalize x 14 = x14 at *
        generalize x 15 = x15 at *
        generalize x 16 = x16 at *
        generalize x 17 = x17 at *
        generalize x 18 = x18 at *
        generalize x 19 = x19 at *
        subst d16
        go_simp
        refine (total_any _ xs _ (HX.out.below hB.bel) HF.out HLN.out).mono ?_
        rintro e w9 ⟨v9, rfl, l9, b9⟩
        exact hK v9 w9 b9 l9
      · simp only [puts, Act.put, List.setIfInBounds_toArray, List.set_cons_zero, List.set_cons_succ, Nat.reduceAdd, Nat.zero_add] at hK ⊢
        have d15 : x 15 = wideV (sumI xs) := hd 15 (by decide)
        have d17 : NumIs W (x 17) (sumI xs) := hd 17 (by decide)
        clear hd
        generalize x 0 = x0 at *
        generalize x 1 = x1 at *
        generalize x 2 = x2 at *
        generalize x 3 = x3 at *
        generalize x 4 = x4 at *
        generalize x 5 = x5 at *
        generalize x 6 = x6 at *
        generalize x 7 = x7 at *
        generalize x 8 = x8 at *
        generalize x 9 = x9 at *
        generalize x 10 = x10 at *
        generalize x 11 = x11 at *
        generalize x 12 = x12 at *
        generalize x 13 = x13 at *
        generalize x 14 = x14 at *
        generalize x 15 = x15 at *
        generalize x 16 = x16 at *
        generalize x 17 = x17 at *
        generalize x 18 = x18 at *
        generalize x 19 = x19 at *
        subst d15
        have D17 := hid d17
        clear d17
        go_simp
        refine (same_yes (sumI xs) (sumI_fits2 xs HF.out HLN.out) _ _ D17.out).mono ?_
        rintro e w2 ⟨rfl, b2⟩
        exact hK _ w2 b2 rfl
      · simp only [puts, Act.put, List.setIfInBounds_toArray, List.set_cons_zero, List.set_cons_succ, Nat.reduceAdd, Nat.zero_add] at hK ⊢
        have d12 : x 12 = .bool true := hd 12 (by decide)
        have d18 : x 18 = .bool true := hd 18 (by decide)
        clear hd
        generalize x 0 = x0 at *
        generalize x 1 = x1 at *
        generalize x 2 = x2 at *
        generalize x 3 = x3 at *
        generalize x 4 = x4 at *
        generalize x 5 = x5 at *
        generalize x 6 = x6 at *
        generalize x 7 = x7 at *
        generalize x 8 = x8 at *
        generalize x 9 = x9 at *
        generalize x 10 = x10 at *
        generalize x 11 = x11 at *
        generalize x 12 = x12 at *
        generalize x 13 = x13 at *
        generalize x 14 = x14 at *
        generalize x 15 = x15 at *
        generalize x 16 = x16 at *
        generalize x 17 = x17 at *
        generalize x 18 = x18 at *
        generalize x 19 = x19 at *
        subst d12
        subst d18
        go_simp
        exact hK _ _ (Below.refl _ _) rfl
    · intro x W hB hd
      have d19 : x 19 = .bool true := hd 19 (by decide)
      clear hd
      simp only [List.take_succ_cons, List.take_zero]
      simp only [puts, Act.put, List.setIfInBounds_toArray, List.set_cons_zero, List.set_cons_succ, Nat.reduceAdd, Nat.zero_add]
      generalize x 0 = x0 at *
      generalize x 1 = x1 at *
      generalize x 2 = x2 at *
      generalize x 3 = x3 at *
      generalize x 4 = x4 at *
      generalize x 5 = x5 at *
      generalize x 6 = x6 at *
      generalize x 7 = x7 at *
      generalize x 8 = x8 at *
      generalize x 9 = x9 at *
      generalize x 10 = x10 at *
      generalize x 11 = x11 at *
      generalize x 12 = x12 at *
      generalize x 13 = x13 at *
      generalize x 14 = x14 at *
      generalize x 15 = x15 at *
      generalize x 16 = x16 at *
      generalize x 17 = x17 at *
      generalize x 18 = x18 at *
      generalize x 19 = x19 at *
      subst d19
      go_simp
      go_wp2_with fail
      go_ret
      exact ⟨rfl, BW.out.trans (hB.bel.mono BW.out.size)⟩
end Go.Proofs.YtjhekggeofalfaaDoor
