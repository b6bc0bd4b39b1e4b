/- noonmarklaw02.WideAnswers returns true at every input and writes nothing that was there. -/
import Derived.Test.YtjhekggeofalfaaDoorAliveW
import Derived.Test.YtjhekggeofalfaaDoorWildG
import Derived.Deep.DeepCutAuto
namespace Go.Proofs.YtjhekggeofalfaaDoor
open Go.RowKit

theorem sat2_fits (z : Int) : Fits2 (sat2 z) := by
  by_cases h : Fits2 z
  · rw [sat2_yes h]; exact h
  · rw [sat2_no h]; exact ⟨by decide, by decide⟩
theorem add_mid {a b : Int} (ha : Fits2 a) (hb : Fits2 b) : Mid150 (a + b) := by obtain ⟨h1, h2⟩ := ha; obtain ⟨h3, h4⟩ := hb; unfold Mid150; omega
theorem sub_mid {a b : Int} (ha : Fits2 a) (hb : Fits2 b) : Mid150 (a - b) := by obtain ⟨h1, h2⟩ := ha; obtain ⟨h3, h4⟩ := hb; unfold Mid150; omega
/-- Region 9: what each operation leaves. -/
def anφ (a b : Int) : Nat → Value → World → Prop
  | 0, v, _ => v = wideV (sat2 (a + b))
  | 1, v, _ => v = .int .i64 (err2 (a + b))
  | 2, v, _ => v = wideV a
  | 3, v, W => NumIs W v a
  | 4, v, _ => v = wideV b
  | 5, v, W => NumIs W v b
  | 6, v, W => NumIs W v (a + b)
  | 7, v, _ => v = .bool true
  | 8, v, _ => v = .bool true
  | 9, v, _ => v = wideV (sat2 (a - b))
  | 10, v, _ => v = .int .i64 (err2 (a - b))
  | 11, v, _ => v = wideV a
  | 12, v, W => NumIs W v a
  | 13, v, _ => v = wideV b
  | 14, v, W => NumIs W v b
  | 15, v, W => NumIs W v (-b)
  | 16, v, W => NumIs W v (a + -b)
  | 17, v, _ => v = .bool true
  | 18, v, _ => v = .bool true
  | 19, v, _ => v = .bool true
  | 20, v, _ => v = wideV a
  | 21, v, _ => v = wideV b
  | 22, v, _ => v = .int .i64 (cmpOf a b)
  | 23, v, _ => v = wideV a
  | 24, v, W => NumIs W v a
  | 25, v, _ => v = wideV b
  | 26, v, W => NumIs W v b
  | 27, v, _ => v = .int .i64 (cmpOf a b)
  | 28, v, _ => v = .bool true
  | 29, v, _ => v = .bool true
  | 30, v, _ => v = .bool true
  | 31, v, _ => v = .int .i64 (sat a)
  | 32, v, _ => v = .int .i64 (sat a)
  | 33, v, _ => v = .bool true
  | 34, v, _ => v = .bool true
  | 35, v, _ => v = .bool true
  | 36, v, _ => v = .bool (decide (Fits a))
  | 37, v, _ => v = .bool (decide (Fits a))
  | 38, v, _ => v = .bool true
  | 39, v, _ => v = .bool true
  | _, _, _ => True
theorem anφ_stable (a b : Int) : ∀ i v W W', Below W.heap.size W W' → anφ a b i v W → anφ a b i v W' := by
  intro i v W W' hb h
  match i, h with
  | 0, h => exact h
  | 1, h => exact h
  | 2, h => exact h
  | 3, h => exact NumIs.below h hb
  | 4, h => exact h
  | 5, h => exact NumIs.below h hb
  | 6, h => exact NumIs.below h hb
  | 7, h => exact h
  | 8, h => exact h
  | 9, h => exact h
  | 10, h => exact h
  | 11, h => exact h
  | 12, h => exact NumIs.below h hb
  | 13, h => exact h
  | 14, h => exact NumIs.below h hb
  | 15, h => exact NumIs.below h hb
  | 16, h => exact NumIs.below h hb
  | 17, h => exact h
  | 18, h => exact h
  | 19, h => exact h
  | 20, h => exact h
  | 21, h => exact h
  | 22, h => exact h
  | 23, h => exact h
  | 24, h => exact NumIs.below h hb
  | 25, h => exact h
  | 26, h => exact NumIs.below h hb
  | 27, h => exact h
  | 28, h => exact h
  | 29, h => exact h
  | 30, h => exact h
  | 31, h => exact h
  | 32, h => exact h
  | 33, h => exact h
  | 34, h => exact h
  | 35, h => exact h
  | 36, h => exact h
  | 37, h => exact h
  | 38, h => exact h
  | 39, h => exact h
  | _ + 40, _ => trivial

set_option maxRecDepth 100000 in
set_option maxHeartbeats 8000000 in
theorem wideAnswers_any (a b : Int) (w : World) (htab : PowTab w) (ha : Fits2 a) (hb : Fits2 b) :
    Calls Tryd.prog 3 #[wideV a, wideV b] w fun e w' => e = .returned (.bool true) ∧ Below w.heap.size w w' := by
  have T := hid (fun W (hW : Below w.heap.size w W) => PowTab.below htab hW)
  have HA := hid ha
  have HB := hid hb
  have C1 := hid (fun W => wideAdd_any a b W ha hb)
  have C2 := hid (fun W => wideSub_any a b W ha hb)
  have C3 := hid (fun W => wideLong_any a W ha)
  have C4 := hid (fun W => num_any a W ha)
  have LV := hid (show ¬ Fits a → sat a = 0 from fun h => sat_no h)
  have LY := hid (show Fits a → longV a = sat a from fun h => by rw [longV_yes h, sat_yes h])
  clear htab ha hb
  unfold wideV at C1 C2 C3 C4 ⊢
  have B := hid (Blks.two w (.cells #[.int .i64 (a / 18446744073709551616), .int .u64 (a % 18446744073709551616)] 24) (.cells #[.int .i64 (b / 18446744073709551616), .int .u64 (b % 18446744073709551616)] 24))
  go_enter Tryd.func3, Tryd.ntmps3
  go_wp2_with fail
  refine (alive_any _ (T.out _ B.out.bel)).mono ?_
  rintro e w1 ⟨rfl, b1⟩
  replace B := hid (B.out.below b1)
  clear b1 T
  obtain ⟨a0, a1⟩ := B.out.c2 mem1
  obtain ⟨b0, b1⟩ := B.out.c2 mem0
  go_wp2_with fail
  clear a0 a1 b0 b1
  refine (C1.out _).mono ?_
  rintro e w2 ⟨rfl, b1⟩
  replace B := hid ((B.out.below b1).add (.cells #[.int .i64 ((sat2 (a + b)) / 18446744073709551616), .int .u64 ((sat2 (a + b)) % 18446744073709551616)] 24))
  clear b1
  obtain ⟨a0, a1⟩ := B.out.c2 mem2
  obtain ⟨b0, b1⟩ := B.out.c2 mem1
  go_wp2_with fail
  clear a0 a1 b0 b1
  refine (C2.out _).mono ?_
  rintro e w3 ⟨rfl, b1⟩
  replace B := hid ((B.out.below b1).add (.cells #[.int .i64 ((sat2 (a - b)) / 18446744073709551616), .int .u64 ((sat2 (a - b)) % 18446744073709551616)] 24))
  clear b1
  obtain ⟨a0, a1⟩ := B.out.c2 mem3
  go_wp2_with fail
  clear a0 a1
  refine (C3.out _).mono ?_
  rintro e w4 ⟨rfl, b1⟩
  replace B := hid (B.out.below b1)
  clear b1
  obtain ⟨a0, a1⟩ := B.out.c2 mem3
  go_wp2_with fail
  clear a0 a1
  refine (C4.out _).mono ?_
  rintro e w5 ⟨v5, rfl, n5, b1⟩
  replace B := hid (B.out.below b1)
  clear b1
  have N5 := hid n5
  clear n5
  go_wp2_with fail
  refine (long_any v5 a _ N5.out HA.out.small).mono ?_
  rintro e w6 ⟨rfl, b1⟩
  replace B := hid (B.out.below b1)
  clear b1 N5 C1 C2 C3 C4
  go_upto_if 39 with fail
  go_cut [11] (fun v wr => v = .int .i64 (sat a) ∧ Hid (Blks w wr [(w3.heap.size, Obj.cells #[.int .i64 ((sat2 (a - b)) / 18446744073709551616), .int .u64 ((sat2 (a - b)) % 18446744073709551616)] 24 (0, 0)), (w2.heap.size, Obj.cells #[.int .i64 ((sat2 (a + b)) / 18446744073709551616), .int .u64 ((sat2 (a + b)) % 18446744073709551616)] 24 (0, 0)), (w.heap.size + 1, Obj.cells #[.int .i64 (b / 18446744073709551616), .int .u64 (b % 18446744073709551616)] 24 (0, 0)), (w.heap.size, Obj.cells #[.int .i64 (a / 18446744073709551616), .int .u64 (a % 18446744073709551616)] 24 (0, 0))]))
  case first =>
    by_cases f : Fits a
    · refine wp_cond_false (by show Value.bool (!decide (Fits a)) = _; rw [decide_eq_true f]; rfl) ?_
      have F := hid f
      clear f
      go_wp2_with fail
      go_meet
      exact ⟨by rw [LY.out F.out], B⟩
    · refine wp_cond_true (by show Value.bool (!decide (Fits a)) = _; rw [decide_eq_false f]; rfl) ?_
      have F := hid f
      clear f
      go_wp2_with fail
      go_meet
      exact ⟨by rw [LV.out F.out], B⟩
  case rest =>
    obtain ⟨rfl, B⟩ := hcut
    clear LY LV
    have BW := hid B.out.bel
    replace B := hid (show Blks wc wc [(w3.heap.size, Obj.cells #[.int .i64 ((sat2 (a - b)) / 18446744073709551616), .int .u64 ((sat2 (a - b)) % 18446744073709551616)] 24 (0, 0)), (w2.heap.size, Obj.cells #[.int .i64 ((sat2 (a + b)) / 18446744073709551616), .int .u64 ((sat2 (a + b)) % 18446744073709551616)] 24 (0, 0)), (w.heap.size + 1, Obj.cells #[.int .i64 (b / 18446744073709551616), .int .u64 (b % 18446744073709551616)] 24 (0, 0)), (w.heap.size, Obj.cells #[.int .i64 (a / 18446744073709551616), .int .u64 (a % 18446744073709551616)] 24 (0, 0))] from ⟨Below.refl _ _, B.out.2⟩)
    go_upto_region 9 with fail
    refine wp_region_guard wc [(w3.heap.size, Obj.cells #[.int .i64 ((sat2 (a - b)) / 18446744073709551616), .int .u64 ((sat2 (a - b)) % 18446744073709551616)] 24 (0, 0)), (w2.heap.size, Obj.cells #[.int .i64 ((sat2 (a + b)) / 18446744073709551616), .int .u64 ((sat2 (a + b)) % 18446744073709551616)] 24 (0, 0)), (w.heap.size + 1, Obj.cells #[.int .i64 (b / 18446744073709551616), .int .u64 (b % 18446744073709551616)] 24 (0, 0)), (w.heap.size, Obj.cells #[.int .i64 (a / 18446744073709551616), .int .u64 (a % 18446744073709551616)] 24 (0, 0))] 40 [(8, true), (19, true), (30, true), (35, true)] 80 (anφ a b) B.out _ rfl (by kernel_rfl) (by rfl) (by kernel_rfl) ?_ (anφ_stable a b) ?_ ?_
    · intro g hgm v W hv
      simp only [List.mem_cons, List.not_mem_nil, or_false] at hgm
      rcases hgm with rfl | rfl | rfl | rfl <;> exact hv
    · simp only [List.take_succ_cons, List.take_zero]
      refine ⟨fun x W K hB hd hK => ?_, fun x W K hB hd hK => ?_, fun x W K hB hd hK => ?_, fun x W K hB hd hK => ?_, fun x W K hB hd hK => ?_, fun x W K hB hd hK => ?_, fun x W K hB hd hK => ?_, fun x W K hB hd hK => ?_, fun x W K hB hd hK => ?_, fun x W K hB hd hK => ?_, fun x W K hB hd hK => ?_, fun x W K hB hd hK => ?_, fun x W K hB hd hK => ?_, fun x W K hB hd hK => ?_, fun x W K hB hd hK => ?_, fun x W K hB hd hK => ?_, fun x W K hB hd hK => ?_, fun x W K hB hd hK => ?_, fun x W K hB hd hK => ?_, fun x W K hB hd hK => ?_, fun x W K hB hd hK => ?_, fun x W K hB hd hK => ?_, fun x W K hB hd hK => ?_, fun x W K hB hd hK => ?_, fun x W K hB hd hK => ?_, fun x W K hB hd hK => ?_, fun x W K hB hd hK => ?_, fun x W K hB hd hK => ?_, fun x W K hB hd hK => ?_, fun x W K hB hd hK => ?_, fun x W K hB hd hK => ?_, fun x W K hB hd hK => ?_, fun x W K hB hd hK => ?_, fun x W K hB hd hK => ?_, fun x W K hB hd hK => ?_, fun x W K hB hd hK => ?_, fun x W K hB hd hK => ?_, fun x W K hB hd hK => ?_, fun x W K hB hd hK => ?_, fun x W K hB hd hK => ?_, trivial⟩
      · simp only [puts, Act.put, List.setIfInBounds_toArray, List.set_cons_zero, List.set_cons_succ, Nat.reduceAdd, Nat.zero_add] at hK ⊢
        clear hd
        generalize x 0 = x0 at *
        generalize x 1 = x1 at *
        generalize x 2 = x2 at *
        generalize x 3 = x3 at *
        generalize x 4 = x4 at *
        generalize x 5 = x5 at *
        generalize x 6 = x6 at *
        generalize x 7 = x7 at *
        generalize x 8 = x8 at *
        generalize x 9 = x9 at *
        generalize x 10 = x10 at *
        generalize x 11 = x11 at *
        generalize x 12 = x12 at *
        generalize x 13 = x13 at *
        generalize x 14 = x14 at *
        generalize x 15 = x15 at *
        generalize x 16 = x16 at *
        generalize x 17 = x17 at *
        generalize x 18 = x18 at *
        generalize x 19 = x19 at *
        generalize x 20 = x20 at *
        generalize x 21 = x21 at *
        generalize x 22 = x22 at *
        generalize x 23 = x23 at *
        generalize x 24 = x24 at *
        generalize x 25 = x25 at *
        generalize x 26 = x26 at *
        generalize x 27 = x27 at *
        generalize x 28 = x28 at *
        generalize x 29 = x29 at *
        generalize x 30 = x30 at *
        generalize x 31 = x31 at *
        generalize x 32 = x32 at *
        generalize x 33 = x33 at *
        generalize x 34 = x34 at *
        generalize x 35 = x35 at *
        generalize x 36 = x36 at *
        generalize x 37 = x37 at *
        generalize x 38 = x38 at *
        generalize x 39 = x39 at *
        obtain ⟨c0, c1⟩ := hB.c2 mem1
        go_simp
        exact hK _ _ (Below.refl _ _) rfl
      · simp only [puts, Act.put, List.setIfInBounds_toArray, List.set_cons_zero, List.set_cons_succ, Nat.reduceAdd, Nat.zero_add] at hK ⊢
        clear hd
        generalize x 0 = x0 at *
        generalize x 1 = x1 at *
        generalize x 2 = x2 at *
        generalize x 3 = x3 at *
        generalize x 4 = x4 at *
        generalize x 5 = x5 at *
        generalize x 6 = x6 at *
        generalize x 7 = x7 at *
        generalize x 8 = x8 at *
        generalize x 9 = x9 at *
        generalize x 10 = x10 at *
        generalize x 11 = x11 at *
        generalize x 12 = x12 at *
        generalize x 13 = x13 at *
        generalize x 14 = x14 at *
        generalize x 15 = x15 at *
        generalize x 16 = x16 at *
        generalize x 17 = x17 at *
        generalize x 18 = x18 at *
        generalize x 19 = x19 at *
        generalize x 20 = x20 at *
        generalize x 21 = x21 at *
        generalize x 22 = x22 at *
        generalize x 23 = x23 at *
        generalize x 24 = x24 at *
        generalize x 25 = x25 at *
        generalize x 26 = x26 at *
        generalize x 27 = x27 at *
        generalize x 28 = x28 at *
        generalize x 29 = x29 at *
        generalize x 30 = x30 at *
        generalize x 31 = x31 at *
        generalize x 32 = x32 at *
        generalize x 33 = x33 at *
        generalize x 34 = x34 at *
        generalize x 35 = x35 at *
        generalize x 36 = x36 at *
        generalize x 37 = x37 at *
        generalize x 38 = x38 at *
        generalize x 39 = x39 at *
        go_simp
        exact hK _ _ (Below.refl _ _) rfl
      · simp only [puts, Act.put, List.setIfInBounds_toArray, List.set_cons_zero, List.set_cons_succ, Nat.reduceAdd, Nat.zero_add] at hK ⊢
        clear hd
        generalize x 0 = x0 at *
        generalize x 1 = x1 at *
        generalize x 2 = x2 at *
        generalize x 3 = x3 at *
        generalize x 4 = x4 at *
        generalize x 5 = x5 at *
        generalize x 6 = x6 at *
        generalize x 7 = x7 at *
        generalize x 8 = x8 at *
        generalize x 9 = x9 at *
        generalize x 10 = x10 at *
        generalize x 11 = x11 at *
        generalize x 12 = x12 at *
        generalize x 13 = x13 at *
        generalize x 14 = x14 at *
        generalize x 15 = x15 at *
        generalize x 16 = x16 at *
        generalize x 17 = x17 at *
        generalize x 18 = x18 at *
        generalize x 19 = x19 at *
        generalize x 20 = x20 at *
        generalize x 21 = x21 at *
        generalize x 22 = x22 at *
        generalize x 23 = x23 at *
        generalize x 24 = x24 at *
        generalize x 25 = x25 at *
        generalize x 26 = x26 at *
        generalize x 27 = x27 at *
        generalize x 28 = x28 at *
        generalize x 29 = x29 at *
        generalize x 30 = x30 at *
        generalize x 31 = x31 at *
        generalize x 32 = x32 at *
        generalize x 33 = x33 at *
        generalize x 34 = x34 at *
        generalize x 35 = x35 at *
        generalize x 36 = x36 at *
        generalize x 37 = x37 at *
        generalize x 38 = x38 at *
        generalize x 39 = x39 at *
        obtain ⟨c0, c1⟩ := hB.c2 mem3
        go_simp
        exact hK _ _ (Below.refl _ _) rfl
      · simp only [puts, Act.put, List.setIfInBounds_toArray, List.set_cons_zero, List.set_cons_succ, Nat.reduceAdd, Nat.zero_add] at hK ⊢
        have d2 : x 2 = wideV a := hd 2 (by decide)
        clear hd
        generalize x 0 = x0 at *
        generalize x 1 = x1 at *
        generalize x 2 = x2 at *
        generalize x 3 = x3 at *
        generalize x 4 = x4 at *
        generalize x 5 = x5 at *
        generalize x 6 = x6 at *
        generalize x 7 = x7 at *
        generalize x 8 = x8 at *
        generalize x 9 = x9 at *
        generalize x 10 = x10 at *
        generalize x 11 = x11 at *
        generalize x 12 = x12 at *
        generalize x 13 = x13 at *
        generalize x 14 = x14 at *
        generalize x 15 = x15 at *
        generalize x 16 = x16 at *
        generalize x 17 = x17 at *
        generalize x 18 = x18 at *
        generalize x 19 = x19 at *
        generalize x 20 = x20 at *
        generalize x 21 = x21 at *
        generalize x 22 = x22 at *
        generalize x 23 = x23 at *
        generalize x 24 = x24 at *
        generalize x 25 = x25 at *
        generalize x 26 = x26 at *
        generalize x 27 = x27 at *
        generalize x 28 = x28 at *
        generalize x 29 = x29 at *
        generalize x 30 = x30 at *
        generalize x 31 = x31 at *
        generalize x 32 = x32 at *
        generalize x 33 = x33 at *
        generalize x 34 = x34 at *
        generalize x 35 = x35 at *
        generalize x 36 = x36 at *
        generalize x 37 = x37 at *
        generalize x 38 = x38 at *
        generalize x 39 = x39 at *
        subst d2
        go_simp
        refine (num_any a _ HA.out).mono ?_
        rintro e w2 ⟨v2, rfl, n2, b2⟩
        exact hK v2 w2 b2 n2
      · simp only [puts, Act.put, List.setIfInBounds_toArray, List.set_cons_zero, List.set_cons_succ, Nat.reduceAdd, Nat.zero_add] at hK ⊢
        clear hd
        generalize x 0 = x0 at *
        generalize x 1 = x1 at *
        generalize x 2 = x2 at *
        generalize x 3 = x3 at *
        generalize x 4 = x4 at *
        generalize x 5 = x5 at *
        generalize x 6 = x6 at *
        generalize x 7 = x7 at *
        generalize x 8 = x8 at *
        generalize x 9 = x9 at *
        generalize x 10 = x10 at *
        generalize x 11 = x11 at *
        generalize x 12 = x12 at *
        generalize x 13 = x13 at *
        generalize x 14 = x14 at *
        generalize x 15 = x15 at *
        generalize x 16 = x16 at *
        generalize x 17 = x17 at *
        generalize x 18 = x18 at *
        generalize x 19 = x19 at *
        generalize x 20 = x20 at *
        generalize x 21 = x21 at *
        generalize x 22 = x22 at *
        generalize x 23 = x23 at *
        generalize x 24 = x24 at *
        generalize x 25 = x25 at *
        generalize x 26 = x26 at *
        generalize x 27 = x27 at *
        generalize x 28 = x28 at *
        generalize x 29 = x29 at *
        generalize x 30 = x30 at *
        generalize x 31 = x31 at *
        generalize x 32 = x32 at *
        generalize x 33 = x33 at *
        generalize x 34 = x34 at *
        generalize x 35 = x35 at *
        generalize x 36 = x36 at *
        generalize x 37 = x37 at *
        generalize x 38 = x38 at *
        generalize x 39 = x39 at *
        obtain ⟨c0, c1⟩ := hB.c2 mem2
        go_simp
        exact hK _ _ (Below.refl _ _) rfl
      · simp only [puts, Act.put, List.setIfInBounds_toArray, List.set_cons_zero, List.set_cons_succ, Nat.reduceAdd, Nat.zero_add] at hK ⊢
        have d4 : x 4 = wideV b := hd 4 (by decide)
        clear hd
        generalize x 0 = x0 at *
        generalize x 1 = x1 at *
        generalize x 2 = x2 at *
        generalize x 3 = x3 at *
        generalize x 4 = x4 at *
        generalize x 5 = x5 at *
        generalize x 6 = x6 at *
        generalize x 7 = x7 at *
        generalize x 8 = x8 at *
        generalize x 9 = x9 at *
        generalize x 10 = x10 at *
        generalize x 11 = x11 at *
        generalize x 12 = x12 at *
        generalize x 13 = x13 at *
        generalize x 14 = x14 at *
        generalize x 15 = x15 at *
        generalize x 16 = x16 at *
        generalize x 17 = x17 at *
        generalize x 18 = x18 at *
        generalize x 19 = x19 at *
        generalize x 20 = x20 at *
        generalize x 21 = x21 at *
        generalize x 22 = x22 at *
        generalize x 23 = x23 at *
        generalize x 24 = x24 at *
        generalize x 25 = x25 at *
        generalize x 26 = x26 at *
        generalize x 27 = x27 at *
        generalize x 28 = x28 at *
        generalize x 29 = x29 at *
        generalize x 30 = x30 at *
        generalize x 31 = x31 at *
        generalize x 32 = x32 at *
        generalize x 33 = x33 at *
        generalize x 34 = x34 at *
        generalize x 35 = x35 at *
        generalize x 36 = x36 at *
        generalize x 37 = x37 at *
        generalize x 38 = x38 at *
        generalize x 39 = x39 at *
        subst d4
        go_simp
        refine (num_any b _ HB.out).mono ?_
        rintro e w2 ⟨v2, rfl, n2, b2⟩
        exact hK v2 w2 b2 n2
      · simp only [puts, Act.put, List.setIfInBounds_toArray, List.set_cons_zero, List.set_cons_succ, Nat.reduceAdd, Nat.zero_add] at hK ⊢
        have d3 : NumIs W (x 3) a := hd 3 (by decide)
        have d5 : NumIs W (x 5) b := hd 5 (by decide)
        clear hd
        generalize x 0 = x0 at *
        generalize x 1 = x1 at *
        generalize x 2 = x2 at *
        generalize x 3 = x3 at *
        generalize x 4 = x4 at *
        generalize x 5 = x5 at *
        generalize x 6 = x6 at *
        generalize x 7 = x7 at *
        generalize x 8 = x8 at *
        generalize x 9 = x9 at *
        generalize x 10 = x10 at *
        generalize x 11 = x11 at *
        generalize x 12 = x12 at *
        generalize x 13 = x13 at *
        generalize x 14 = x14 at *
        generalize x 15 = x15 at *
        generalize x 16 = x16 at *
        generalize x 17 = x17 at *
        generalize x 18 = x18 at *
        generalize x 19 = x19 at *
        generalize x 20 = x20 at *
        generalize x 21 = x21 at *
        generalize x 22 = x22 at *
        generalize x 23 = x23 at *
        generalize x 24 = x24 at *
        generalize x 25 = x25 at *
        generalize x 26 = x26 at *
        generalize x 27 = x27 at *
        generalize x 28 = x28 at *
        generalize x 29 = x29 at *
        generalize x 30 = x30 at *
        generalize x 31 = x31 at *
        generalize x 32 = x32 at *
        generalize x 33 = x33 at *
        generalize x 34 = x34 at *
        generalize x 35 = x35 at *
        generalize x 36 = x36 at *
        generalize x 37 = x37 at *
        generalize x 38 = x38 at *
        generalize x 39 = x39 at *
        have D3 := hid d3
        clear d3
        have D5 := hid d5
        clear d5
        go_simp
        refine (add_any _ _ a b _ D3.out D5.out HA.out.small HB.out.small).mono ?_
        rintro e w2 ⟨v2, rfl, n2, b2⟩
        exact hK v2 w2 b2 n2
      · simp only [puts, Act.put, List.setIfInBounds_toArray, List.set_cons_zero, List.set_cons_succ, Nat.reduceAdd, Nat.zero_add] at hK ⊢
        have d0 : x 0 = wideV (sat2 (a + b)) := hd 0 (by decide)
        have d1 : x 1 = .int .i64 (err2 (a + b)) := hd 1 (by decide)
        have d6 : NumIs W (x 6) (a + b) := hd 6 (by decide)
        clear hd
        generalize x 0 = x0 at *
        generalize x 1 = x1 at *
        generalize x 2 = x2 at *
        generalize x 3 = x3 at *
        generalize x 4 = x4 at *
        generalize x 5 = x5 at *
        generalize x 6 = x6 at *
        generalize x 7 = x7 at *
        generalize x 8 = x8 at *
        generalize x 9 = x9 at *
        generalize x 10 = x10 at *
        generalize x 11 = x11 at *
        generalize x 12 = x12 at *
        generalize x 13 = x13 at *
        generalize x 14 = x14 at *
        generalize x 15 = x15 at *
        generalize x 16 = x16 at *
        generalize x 17 = x17 at *
        generalize x 18 = x18 at *
        generalize x 19 = x19 at *
        generalize x 20 = x20 at *
        generalize x 21 = x21 at *
        generalize x 22 = x22 at *
        generalize x 23 = x23 at *
        generalize x 24 = x24 at *
        generalize x 25 = x25 at *
        generalize x 26 = x26 at *
        generalize x 27 = x27 at *
        generalize x 28 = x28 at *
        generalize x 29 = x29 at *
        generalize x 30 = x30 at *
        generalize x 31 = x31 at *
        generalize x 32 = x32 at *
        generalize x 33 = x33 at *
        generalize x 34 = x34 at *
        generalize x 35 = x35 at *
        generalize x 36 = x36 at *
        generalize x 37 = x37 at *
        generalize x 38 = x38 at *
        generalize x 39 = x39 at *
        subst d0
        subst d1
        have D6 := hid d6
        clear d6
        go_simp
        refine (same_any _ (a + b) _ D6.out (add_mid HA.out HB.out)).mono ?_
        rintro e w2 ⟨rfl, b2⟩
        exact hK _ w2 b2 rfl
      · simp only [puts, Act.put, List.setIfInBounds_toArray, List.set_cons_zero, List.set_cons_succ, Nat.reduceAdd, Nat.zero_add] at hK ⊢
        have d7 : x 7 = .bool true := hd 7 (by decide)
        clear hd
        generalize x 0 = x0 at *
        generalize x 1 = x1 at *
        generalize x 2 = x2 at *
        generalize x 3 = x3 at *
        generalize x 4 = x4 at *
        generalize x 5 = x5 at *
        generalize x 6 = x6 at *
        generalize x 7 = x7 at *
        generalize x 8 = x8 at *
        generalize x 9 = x9 at *
        generalize x 10 = x10 at *
        generalize x 11 = x11 at *
        generalize x 12 = x12 at *
        generalize x 13 = x13 at *
        generalize x 14 = x14 at *
        generalize x 15 = x15 at *
        generalize x 16 = x16 at *
        generalize x 17 = x17 at *
        generalize x 18 = x18 at *
        generalize x 19 = x19 at *
        generalize x 20 = x20 at *
        generalize x 21 = x21 at *
        generalize x 22 = x22 at *
        generalize x 23 = x23 at *
        generalize x 24 = x24 at *
        generalize x 25 = x25 at *
        generalize x 26 = x26 at *
        generalize x 27 = x27 at *
        generalize x 28 = x28 at *
        generalize x 29 = x29 at *
        generalize x 30 = x30 at *
        generalize x 31 = x31 at *
        generalize x 32 = x32 at *
        generalize x 33 = x33 at *
        generalize x 34 = x34 at *
        generalize x 35 = x35 at *
        generalize x 36 = x36 at *
        generalize x 37 = x37 at *
        generalize x 38 = x38 at *
        generalize x 39 = x39 at *
        subst d7
        go_simp
        exact hK _ _ (Below.refl _ _) rfl
      · simp only [puts, Act.put, List.setIfInBounds_toArray, List.set_cons_zero, List.set_cons_succ, Nat.reduceAdd, Nat.zero_add] at hK ⊢
        clear hd
        generalize x 0 = x0 at *
        generalize x 1 = x1 at *
        generalize x 2 = x2 at *
        generalize x 3 = x3 at *
        generalize x 4 = x4 at *
        generalize x 5 = x5 at *
        generalize x 6 = x6 at *
        generalize x 7 = x7 at *
        generalize x 8 = x8 at *
        generalize x 9 = x9 at *
        generalize x 10 = x10 at *
        generalize x 11 = x11 at *
        generalize x 12 = x12 at *
        generalize x 13 = x13 at *
        generalize x 14 = x14 at *
        generalize x 15 = x15 at *
        generalize x 16 = x16 at *
        generalize x 17 = x17 at *
        generalize x 18 = x18 at *
        generalize x 19 = x19 at *
        generalize x 20 = x20 at *
        generalize x 21 = x21 at *
        generalize x 22 = x22 at *
        generalize x 23 = x23 at *
        generalize x 24 = x24 at *
        generalize x 25 = x25 at *
        generalize x 26 = x26 at *
        generalize x 27 = x27 at *
        generalize x 28 = x28 at *
        generalize x 29 = x29 at *
        generalize x 30 = x30 at *
        generalize x 31 = x31 at *
        generalize x 32 = x32 at *
        generalize x 33 = x33 at *
        generalize x 34 = x34 at *
        generalize x 35 = x35 at *
        generalize x 36 = x36 at *
        generalize x 37 = x37 at *
        generalize x 38 = x38 at *
        generalize x 39 = x39 at *
        obtain ⟨c0, c1⟩ := hB.c2 mem0
        go_simp
        exact hK _ _ (Below.refl _ _) rfl
      · simp only [puts, Act.put, List.setIfInBounds_toArray, List.set_cons_zero, List.set_cons_succ, Nat.reduceAdd, Nat.zero_add] at hK ⊢
        clear hd
        generalize x 0 = x0 at *
        generalize x 1 = x1 at *
        generalize x 2 = x2 at *
        generalize x 3 = x3 at *
        generalize x 4 = x4 at *
        generalize x 5 = x5 at *
        generalize x 6 = x6 at *
        generalize x 7 = x7 at *
        generalize x 8 = x8 at *
        generalize x 9 = x9 at *
        generalize x 10 = x10 at *
        generalize x 11 = x11 at *
        generalize x 12 = x12 at *
        generalize x 13 = x13 at *
        generalize x 14 = x14 at *
        generalize x 15 = x15 at *
        generalize x 16 = x16 at *
        generalize x 17 = x17 at *
        generalize x 18 = x18 at *
        generalize x 19 = x19 at *
        generalize x 20 = x20 at *
        generalize x 21 = x21 at *
        generalize x 22 = x22 at *
        generalize x 23 = x23 at *
        generalize x 24 = x24 at *
        generalize x 25 = x25 at *
        generalize x 26 = x26 at *
        generalize x 27 = x27 at *
        generalize x 28 = x28 at *
        generalize x 29 = x29 at *
        generalize x 30 = x30 at *
        generalize x 31 = x31 at *
        generalize x 32 = x32 at *
        generalize x 33 = x33 at *
        generalize x 34 = x34 at *
        generalize x 35 = x35 at *
        generalize x 36 = x36 at *
        generalize x 37 = x37 at *
        generalize x 38 = x38 at *
        generalize x 39 = x39 at *
        go_simp
        exact hK _ _ (Below.refl _ _) rfl
      · simp only [puts, Act.put, List.setIfInBounds_toArray, List.set_cons_zero, List.set_cons_succ, Nat.reduceAdd, Nat.zero_add] at hK ⊢
        clear hd
        generalize x 0 = x0 at *
        generalize x 1 = x1 at *
        generalize x 2 = x2 at *
        generalize x 3 = x3 at *
        generalize x 4 = x4 at *
        generalize x 5 = x5 at *
        generalize x 6 = x6 at *
        generalize x 7 = x7 at *
        generalize x 8 = x8 at *
        generalize x 9 = x9 at *
        generalize x 10 = x10 at *
        generalize x 11 = x11 at *
        generalize x 12 = x12 at *
        generalize x 13 = x13 at *
        generalize x 14 = x14 at *
        generalize x 15 = x15 at *
        generalize x 16 = x16 at *
        generalize x 17 = x17 at *
        generalize x 18 = x18 at *
        generalize x 19 = x19 at *
        generalize x 20 = x20 at *
        generalize x 21 = x21 at *
        generalize x 22 = x22 at *
        generalize x 23 = x23 at *
        generalize x 24 = x24 at *
        generalize x 25 = x25 at *
        generalize x 26 = x26 at *
        generalize x 27 = x27 at *
        generalize x 28 = x28 at *
        generalize x 29 = x29 at *
        generalize x 30 = x30 at *
        generalize x 31 = x31 at *
        generalize x 32 = x32 at *
        generalize x 33 = x33 at *
        generalize x 34 = x34 at *
        generalize x 35 = x35 at *
        generalize x 36 = x36 at *
        generalize x 37 = x37 at *
        generalize x 38 = x38 at *
        generalize x 39 = x39 at *
        obtain ⟨c0, c1⟩ := hB.c2 mem3
        go_simp
        exact hK _ _ (Below.refl _ _) rfl
      · simp only [puts, Act.put, List.setIfInBounds_toArray, List.set_cons_zero, List.set_cons_succ, Nat.reduceAdd, Nat.zero_add] at hK ⊢
        have d11 : x 11 = wideV a := hd 11 (by decide)
        clear hd
        generalize x 0 = x0 at *
        generalize x 1 = x1 at *
        generalize x 2 = x2 at *
        generalize x 3 = x3 at *
        generalize x 4 = x4 at *
        generalize x 5 = x5 at *
        generalize x 6 = x6 at *
        generalize x 7 = x7 at *
        generalize x 8 = x8 at *
        generalize x 9 = x9 at *
        generalize x 10 = x10 at *
        generalize x 11 = x11 at *
        generalize x 12 = x12 at *
        generalize x 13 = x13 at *
        generalize x 14 = x14 at *
        generalize x 15 = x15 at *
        generalize x 16 = x16 at *
        generalize x 17 = x17 at *
        generalize x 18 = x18 at *
        generalize x 19 = x19 at *
        generalize x 20 = x20 at *
        generalize x 21 = x21 at *
        generalize x 22 = x22 at *
        generalize x 23 = x23 at *
        generalize x 24 = x24 at *
        generalize x 25 = x25 at *
        generalize x 26 = x26 at *
        generalize x 27 = x27 at *
        generalize x 28 = x28 at *
        generalize x 29 = x29 at *
        generalize x 30 = x30 at *
        generalize x 31 = x31 at *
        generalize x 32 = x32 at *
        generalize x 33 = x33 at *
        generalize x 34 = x34 at *
        generalize x 35 = x35 at *
        generalize x 36 = x36 at *
        generalize x 37 = x37 at *
        generalize x 38 = x38 at *
        generalize x 39 = x39 at *
        subst d11
        go_simp
        refine (num_any a _ HA.out).mono ?_
        rintro e w2 ⟨v2, rfl, n2, b2⟩
        exact hK v2 w2 b2 n2
      · simp only [puts, Act.put, List.setIfInBounds_toArray, List.set_cons_zero, List.set_cons_succ, Nat.reduceAdd, Nat.zero_add] at hK ⊢
        clear hd
        generalize x 0 = x0 at *
        generalize x 1 = x1 at *
        generalize x 2 = x2 at *
        generalize x 3 = x3 at *
        generalize x 4 = x4 at *
        generalize x 5 = x5 at *
        generalize x 6 = x6 at *
        generalize x 7 = x7 at *
        generalize x 8 = x8 at *
        generalize x 9 = x9 at *
        generalize x 10 = x10 at *
        generalize x 11 = x11 at *
        generalize x 12 = x12 at *
        generalize x 13 = x13 at *
        generalize x 14 = x14 at *
        generalize x 15 = x15 at *
        generalize x 16 = x16 at *
        generalize x 17 = x17 at *
        generalize x 18 = x18 at *
        generalize x 19 = x19 at *
        generalize x 20 = x20 at *
        generalize x 21 = x21 at *
        generalize x 22 = x22 at *
        generalize x 23 = x23 at *
        generalize x 24 = x24 at *
        generalize x 25 = x25 at *
        generalize x 26 = x26 at *
        generalize x 27 = x27 at *
        generalize x 28 = x28 at *
        generalize x 29 = x29 at *
        generalize x 30 = x30 at *
        generalize x 31 = x31 at *
        generalize x 32 = x32 at *
        generalize x 33 = x33 at *
        generalize x 34 = x34 at *
        generalize x 35 = x35 at *
        generalize x 36 = x36 at *
        generalize x 37 = x37 at *
        generalize x 38 = x38 at *
        generalize x 39 = x39 at *
        obtain ⟨c0, c1⟩ := hB.c2 mem2
        go_simp
        exact hK _ _ (Below.refl _ _) rfl
      · simp only [puts, Act.put, List.setIfInBounds_toArray, List.set_cons_zero, List.set_cons_succ, Nat.reduceAdd, Nat.zero_add] at hK ⊢
        have d13 : x 13 = wideV b := hd 13 (by decide)
        clear hd
        generalize x 0 = x0 at *
        generalize x 1 = x1 at *
        generalize x 2 = x2 at *
        generalize x 3 = x3 at *
        generalize x 4 = x4 at *
        generalize x 5 = x5 at *
        generalize x 6 = x6 at *
        generalize x 7 = x7 at *
        generalize x 8 = x8 at *
        generalize x 9 = x9 at *
        generalize x 10 = x10 at *
        generalize x 11 = x11 at *
        generalize x 12 = x12 at *
        generalize x 13 = x13 at *
        generalize x 14 = x14 at *
        generalize x 15 = x15 at *
        generalize x 16 = x16 at *
        generalize x 17 = x17 at *
        generalize x 18 = x18 at *
        generalize x 19 = x19 at *
        generalize x 20 = x20 at *
        generalize x 21 = x21 at *
        generalize x 22 = x22 at *
        generalize x 23 = x23 at *
        generalize x 24 = x24 at *
        generalize x 25 = x25 at *
        generalize x 26 = x26 at *
        generalize x 27 = x27 at *
        generalize x 28 = x28 at *
        generalize x 29 = x29 at *
        generalize x 30 = x30 at *
        generalize x 31 = x31 at *
        generalize x 32 = x32 at *
        generalize x 33 = x33 at *
        generalize x 34 = x34 at *
        generalize x 35 = x35 at *
        generalize x 36 = x36 at *
        generalize x 37 = x37 at *
        generalize x 38 = x38 at *
        generalize x 39 = x39 at *
        subst d13
        go_simp
        refine (num_any b _ HB.out).mono ?_
        rintro e w2 ⟨v2, rfl, n2, b2⟩
        exact hK v2 w2 b2 n2
      · simp only [puts, Act.put, List.setIfInBounds_toArray, List.set_cons_zero, List.set_cons_succ, Nat.reduceAdd, Nat.zero_add] at hK ⊢
        have d14 : NumIs W (x 14) b := hd 14 (by decide)
        clear hd
        generalize x 0 = x0 at *
        generalize x 1 = x1 at *
        generalize x 2 = x2 at *
        generalize x 3 = x3 at *
        generalize x 4 = x4 at *
        generalize x 5 = x5 at *
        generalize x 6 = x6 at *
        generalize x 7 = x7 at *
        generalize x 8 = x8 at *
        generalize x 9 = x9 at *
        generalize x 10 = x10 at *
        generalize x 11 = x11 at *
        generalize x 12 = x12 at *
        generalize x 13 = x13 at *
        generalize x 14 = x14 at *
        generalize x 15 = x15 at *
        generalize x 16 = x16 at *
        generalize x 17 = x17 at *
        generalize x 18 = x18 at *
        generalize x 19 = x19 at *
        generalize x 20 = x20 at *
        generalize x 21 = x21 at *
        generalize x 22 = x22 at *
        generalize x 23 = x23 at *
        generalize x 24 = x24 at *
        generalize x 25 = x25 at *
        generalize x 26 = x26 at *
        generalize x 27 = x27 at *
        generalize x 28 = x28 at *
        generalize x 29 = x29 at *
        generalize x 30 = x30 at *
        generalize x 31 = x31 at *
        generalize x 32 = x32 at *
        generalize x 33 = x33 at *
        generalize x 34 = x34 at *
        generalize x 35 = x35 at *
        generalize x 36 = x36 at *
        generalize x 37 = x37 at *
        generalize x 38 = x38 at *
        generalize x 39 = x39 at *
        have D14 := hid d14
        clear d14
        go_simp
        refine (neg_any _ b _ D14.out).mono ?_
        rintro e w2 ⟨v2, rfl, n2, b2⟩
        exact hK v2 w2 b2 n2
      · simp only [puts, Act.put, List.setIfInBounds_toArray, List.set_cons_zero, List.set_cons_succ, Nat.reduceAdd, Nat.zero_add] at hK ⊢
        have d12 : NumIs W (x 12) a := hd 12 (by decide)
        have d15 : NumIs W (x 15) (-b) := hd 15 (by decide)
        clear hd
        generalize x 0 = x0 at *
        generalize x 1 = x1 at *
        generalize x 2 = x2 at *
        generalize x 3 = x3 at *
        generalize x 4 = x4 at *
        generalize x 5 = x5 at *
        generalize x 6 = x6 at *
        generalize x 7 = x7 at *
        generalize x 8 = x8 at *
        generalize x 9 = x9 at *
        generalize x 10 = x10 at *
        generalize x 11 = x11 at *
        generalize x 12 = x12 at *
        generalize x 13 = x13 at *
        generalize x 14 = x14 at *
        generalize x 15 = x15 at *
        generalize x 16 = x16 at *
        generalize x 17 = x17 at *
        generalize x 18 = x18 at *
        generalize x 19 = x19 at *
        generalize x 20 = x20 at *
        generalize x 21 = x21 at *
        generalize x 22 = x22 at *
        generalize x 23 = x23 at *
        generalize x 24 = x24 at *
        generalize x 25 = x25 at *
        generalize x 26 = x26 at *
        generalize x 27 = x27 at *
        generalize x 28 = x28 at *
        generalize x 29 = x29 at *
        generalize x 30 = x30 at *
        generalize x 31 = x31 at *
        generalize x 32 = x32 at *
        generalize x 33 = x33 at *
        generalize x 34 = x34 at *
        generalize x 35 = x35 at *
        generalize x 36 = x36 at *
        generalize x 37 = x37 at *
        generalize x 38 = x38 at *
        generalize x 39 = x39 at *
        have D12 := hid d12
        clear d12
        have D15 := hid d15
        clear d15
        go_simp
        refine (add_any _ _ a (-b) _ D12.out D15.out HA.out.small (small_neg HB.out.small)).mono ?_
        rintro e w2 ⟨v2, rfl, n2, b2⟩
        exact hK v2 w2 b2 n2
      · simp only [puts, Act.put, List.setIfInBounds_toArray, List.set_cons_zero, List.set_cons_succ, Nat.reduceAdd, Nat.zero_add] at hK ⊢
        have d9 : x 9 = wideV (sat2 (a - b)) := hd 9 (by decide)
        have d10 : x 10 = .int .i64 (err2 (a - b)) := hd 10 (by decide)
        have d16 : NumIs W (x 16) (a + -b) := hd 16 (by decide)
        clear hd
        generalize x 0 = x0 at *
        generalize x 1 = x1 at *
        generalize x 2 = x2 at *
        generalize x 3 = x3 at *
        generalize x 4 = x4 at *
        generalize x 5 = x5 at *
        generalize x 6 = x6 at *
        generalize x 7 = x7 at *
        generalize x 8 = x8 at *
        generalize x 9 = x9 at *
        generalize x 10 = x10 at *
        generalize x 11 = x11 at *
        generalize x 12 = x12 at *
        generalize x 13 = x13 at *
        generalize x 14 = x14 at *
        generalize x 15 = x15 at *
        generalize x 16 = x16 at *
        generalize x 17 = x17 at *
        generalize x 18 = x18 at *
        generalize x 19 = x19 at *
        generalize x 20 = x20 at *
        generalize x 21 = x21 at *
        generalize x 22 = x22 at *
        generalize x 23 = x23 at *
        generalize x 24 = x24 at *
        generalize x 25 = x25 at *
        generalize x 26 = x26 at *
        generalize x 27 = x27 at *
        generalize x 28 = x28 at *
        generalize x 29 = x29 at *
        generalize x 30 = x30 at *
        generalize x 31 = x31 at *
        generalize x 32 = x32 at *
        generalize x 33 = x33 at *
        generalize x 34 = x34 at *
        generalize x 35 = x35 at *
        generalize x 36 = x36 at *
        generalize x 37 = x37 at *
        generalize x 38 = x38 at *
        generalize x 39 = x39 at *
        subst d9
        subst d10
        have D16 := hid d16
        clear d16
        go_simp
        refine (same_any _ (a - b) _ (by rw [Int.sub_eq_add_neg]; exact D16.out) (sub_mid HA.out HB.out)).mono ?_
        rintro e w2 ⟨rfl, b2⟩
        exact hK _ w2 b2 rfl
      · simp only [puts, Act.put, List.setIfInBounds_toArray, List.set_cons_zero, List.set_cons_succ, Nat.reduceAdd, Nat.zero_add] at hK ⊢
        have d8 : x 8 = .bool true := hd 8 (by decide)
        have d17 : x 17 = .bool true := hd 17 (by decide)
        clear hd
        generalize x 0 = x0 at *
        generalize x 1 = x1 at *
        generalize x 2 = x2 at *
        generalize x 3 = x3 at *
        generalize x 4 = x4 at *
        generalize x 5 = x5 at *
        generalize x 6 = x6 at *
        generalize x 7 = x7 at *
        generalize x 8 = x8 at *
        generalize x 9 = x9 at *
        generalize x 10 = x10 at *
        generalize x 11 = x11 at *
        generalize x 12 = x12 at *
        generalize x 13 = x13 at *
        generalize x 14 = x14 at *
        generalize x 15 = x15 at *
        generalize x 16 = x16 at *
        generalize x 17 = x17 at *
        generalize x 18 = x18 at *
        generalize x 19 = x19 at *
        generalize x 20 = x20 at *
        generalize x 21 = x21 at *
        generalize x 22 = x22 at *
        generalize x 23 = x23 at *
        generalize x 24 = x24 at *
        generalize x 25 = x25 at *
        generalize x 26 = x26 at *
        generalize x 27 = x27 at *
        generalize x 28 = x28 at *
        generalize x 29 = x29 at *
        generalize x 30 = x30 at *
        generalize x 31 = x31 at *
        generalize x 32 = x32 at *
        generalize x 33 = x33 at *
        generalize x 34 = x34 at *
        generalize x 35 = x35 at *
        generalize x 36 = x36 at *
        generalize x 37 = x37 at *
        generalize x 38 = x38 at *
        generalize x 39 = x39 at *
        subst d8
        subst d17
        go_simp
        exact hK _ _ (Below.refl _ _) rfl
      · simp only [puts, Act.put, List.setIfInBounds_toArray, List.set_cons_zero, List.set_cons_succ, Nat.reduceAdd, Nat.zero_add] at hK ⊢
        have d18 : x 18 = .bool true := hd 18 (by decide)
        clear hd
        generalize x 0 = x0 at *
        generalize x 1 = x1 at *
        generalize x 2 = x2 at *
        generalize x 3 = x3 at *
        generalize x 4 = x4 at *
        generalize x 5 = x5 at *
        generalize x 6 = x6 at *
        generalize x 7 = x7 at *
        generalize x 8 = x8 at *
        generalize x 9 = x9 at *
        generalize x 10 = x10 at *
        generalize x 11 = x11 at *
        generalize x 12 = x12 at *
        generalize x 13 = x13 at *
        generalize x 14 = x14 at *
        generalize x 15 = x15 at *
        generalize x 16 = x16 at *
        generalize x 17 = x17 at *
        generalize x 18 = x18 at *
        generalize x 19 = x19 at *
        generalize x 20 = x20 at *
        generalize x 21 = x21 at *
        generalize x 22 = x22 at *
        generalize x 23 = x23 at *
        generalize x 24 = x24 at *
        generalize x 25 = x25 at *
        generalize x 26 = x26 at *
        generalize x 27 = x27 at *
        generalize x 28 = x28 at *
        generalize x 29 = x29 at *
        generalize x 30 = x30 at *
        generalize x 31 = x31 at *
        generalize x 32 = x32 at *
        generalize x 33 = x33 at *
        generalize x 34 = x34 at *
        generalize x 35 = x35 at *
        generalize x 36 = x36 at *
        generalize x 37 = x37 at *
        generalize x 38 = x38 at *
        generalize x 39 = x39 at *
        subst d18
        go_simp
        exact hK _ _ (Below.refl _ _) rfl
      · simp only [puts, Act.put, List.setIfInBounds_toArray, List.set_cons_zero, List.set_cons_succ, Nat.reduceAdd, Nat.zero_add] at hK ⊢
        clear hd
        generalize x 0 = x0 at *
        generalize x 1 = x1 at *
        generalize x 2 = x2 at *
        generalize x 3 = x3 at *
        generalize x 4 = x4 at *
        generalize x 5 = x5 at *
        generalize x 6 = x6 at *
        generalize x 7 = x7 at *
        generalize x 8 = x8 at *
        generalize x 9 = x9 at *
        generalize x 10 = x10 at *
        generalize x 11 = x11 at *
        generalize x 12 = x12 at *
        generalize x 13 = x13 at *
        generalize x 14 = x14 at *
        generalize x 15 = x15 at *
        generalize x 16 = x16 at *
        generalize x 17 = x17 at *
        generalize x 18 = x18 at *
        generalize x 19 = x19 at *
        generalize x 20 = x20 at *
        generalize x 21 = x21 at *
        generalize x 22 = x22 at *
        generalize x 23 = x23 at *
        generalize x 24 = x24 at *
        generalize x 25 = x25 at *
        generalize x 26 = x26 at *
        generalize x 27 = x27 at *
        generalize x 28 = x28 at *
        generalize x 29 = x29 at *
        generalize x 30 = x30 at *
        generalize x 31 = x31 at *
        generalize x 32 = x32 at *
        generalize x 33 = x33 at *
        generalize x 34 = x34 at *
        generalize x 35 = x35 at *
        generalize x 36 = x36 at *
        generalize x 37 = x37 at *
        generalize x 38 = x38 at *
        generalize x 39 = x39 at *
        obtain ⟨c0, c1⟩ := hB.c2 mem3
        go_simp
        exact hK _ _ (Below.refl _ _) rfl
      · simp only [puts, Act.put, List.setIfInBounds_toArray, List.set_cons_zero, List.set_cons_succ, Nat.reduceAdd, Nat.zero_add] at hK ⊢
        clear hd
        generalize x 0 = x0 at *
        generalize x 1 = x1 at *
        generalize x 2 = x2 at *
        generalize x 3 = x3 at *
        generalize x 4 = x4 at *
        generalize x 5 = x5 at *
        generalize x 6 = x6 at *
        generalize x 7 = x7 at *
        generalize x 8 = x8 at *
        generalize x 9 = x9 at *
        generalize x 10 = x10 at *
        generalize x 11 = x11 at *
        generalize x 12 = x12 at *
        generalize x 13 = x13 at *
        generalize x 14 = x14 at *
        generalize x 15 = x15 at *
        generalize x 16 = x16 at *
        generalize x 17 = x17 at *
        generalize x 18 = x18 at *
        generalize x 19 = x19 at *
        generalize x 20 = x20 at *
        generalize x 21 = x21 at *
        generalize x 22 = x22 at *
        generalize x 23 = x23 at *
        generalize x 24 = x24 at *
        generalize x 25 = x25 at *
        generalize x 26 = x26 at *
        generalize x 27 = x27 at *
        generalize x 28 = x28 at *
        generalize x 29 = x29 at *
        generalize x 30 = x30 at *
        generalize x 31 = x31 at *
        generalize x 32 = x32 at *
        generalize x 33 = x33 at *
        generalize x 34 = x34 at *
        generalize x 35 = x35 at *
        generalize x 36 = x36 at *
        generalize x 37 = x37 at *
        generalize x 38 = x38 at *
        generalize x 39 = x39 at *
        obtain ⟨c0, c1⟩ := hB.c2 mem2
        go_simp
        exact hK _ _ (Below.refl _ _) rfl
      · simp only [puts, Act.put, List.setIfInBounds_toArray, List.set_cons_zero, List.set_cons_succ, Nat.reduceAdd, Nat.zero_add] at hK ⊢
        have d20 : x 20 = wideV a := hd 20 (by decide)
        have d21 : x 21 = wideV b := hd 21 (by decide)
        clear hd
        generalize x 0 = x0 at *
        generalize x 1 = x1 at *
        generalize x 2 = x2 at *
        generalize x 3 = x3 at *
        generalize x 4 = x4 at *
        generalize x 5 = x5 at *
        generalize x 6 = x6 at *
        generalize x 7 = x7 at *
        generalize x 8 = x8 at *
        generalize x 9 = x9 at *
        generalize x 10 = x10 at *
        generalize x 11 = x11 at *
        generalize x 12 = x12 at *
        generalize x 13 = x13 at *
        generalize x 14 = x14 at *
        generalize x 15 = x15 at *
        generalize x 16 = x16 at *
        generalize x 17 = x17 at *
        generalize x 18 = x18 at *
        generalize x 19 = x19 at *
        generalize x 20 = x20 at *
        generalize x 21 = x21 at *
        generalize x 22 = x22 at *
        generalize x 23 = x23 at *
        generalize x 24 = x24 at *
        generalize x 25 = x25 at *
        generalize x 26 = x26 at *
        generalize x 27 = x27 at *
        generalize x 28 = x28 at *
        generalize x 29 = x29 at *
        generalize x 30 = x30 at *
        generalize x 31 = x31 at *
        generalize x 32 = x32 at *
        generalize x 33 = x33 at *
        generalize x 34 = x34 at *
        generalize x 35 = x35 at *
        generalize x 36 = x36 at *
        generalize x 37 = x37 at *
        generalize x 38 = x38 at *
        generalize x 39 = x39 at *
        subst d20
        subst d21
        go_simp
        refine (wideCmp_any a b _ HA.out HB.out).mono ?_
        rintro e w2 ⟨rfl, b2⟩
        exact hK _ w2 b2 rfl
      · simp only [puts, Act.put, List.setIfInBounds_toArray, List.set_cons_zero, List.set_cons_succ, Nat.reduceAdd, Nat.zero_add] at hK ⊢
        clear hd
        generalize x 0 = x0 at *
        generalize x 1 = x1 at *
        generalize x 2 = x2 at *
        generalize x 3 = x3 at *
        generalize x 4 = x4 at *
        generalize x 5 = x5 at *
        generalize x 6 = x6 at *
        generalize x 7 = x7 at *
        generalize x 8 = x8 at *
        generalize x 9 = x9 at *
        generalize x 10 = x10 at *
        generalize x 11 = x11 at *
        generalize x 12 = x12 at *
        generalize x 13 = x13 at *
        generalize x 14 = x14 at *
        generalize x 15 = x15 at *
        generalize x 16 = x16 at *
        generalize x 17 = x17 at *
        generalize x 18 = x18 at *
        generalize x 19 = x19 at *
        generalize x 20 = x20 at *
        generalize x 21 = x21 at *
        generalize x 22 = x22 at *
        generalize x 23 = x23 at *
        generalize x 24 = x24 at *
        generalize x 25 = x25 at *
        generalize x 26 = x26 at *
        generalize x 27 = x27 at *
        generalize x 28 = x28 at *
        generalize x 29 = x29 at *
        generalize x 30 = x30 at *
        generalize x 31 = x31 at *
        generalize x 32 = x32 at *
        generalize x 33 = x33 at *
        generalize x 34 = x34 at *
        generalize x 35 = x35 at *
        generalize x 36 = x36 at *
        generalize x 37 = x37 at *
        generalize x 38 = x38 at *
        generalize x 39 = x39 at *
        obtain ⟨c0, c1⟩ := hB.c2 mem3
        go_simp
        exact hK _ _ (Below.refl _ _) rfl
      · simp only [puts, Act.put, List.setIfInBounds_toArray, List.set_cons_zero, List.set_cons_succ, Nat.reduceAdd, Nat.zero_add] at hK ⊢
        have d23 : x 23 = wideV a := hd 23 (by decide)
        clear hd
        generalize x 0 = x0 at *
        generalize x 1 = x1 at *
        generalize x 2 = x2 at *
        generalize x 3 = x3 at *
        generalize x 4 = x4 at *
        generalize x 5 = x5 at *
        generalize x 6 = x6 at *
        generalize x 7 = x7 at *
        generalize x 8 = x8 at *
        generalize x 9 = x9 at *
        generalize x 10 = x10 at *
        generalize x 11 = x11 at *
        generalize x 12 = x12 at *
        generalize x 13 = x13 at *
        generalize x 14 = x14 at *
        generalize x 15 = x15 at *
        generalize x 16 = x16 at *
        generalize x 17 = x17 at *
        generalize x 18 = x18 at *
        generalize x 19 = x19 at *
        generalize x 20 = x20 at *
        generalize x 21 = x21 at *
        generalize x 22 = x22 at *
        generalize x 23 = x23 at *
        generalize x 24 = x24 at *
        generalize x 25 = x25 at *
        generalize x 26 = x26 at *
        generalize x 27 = x27 at *
        generalize x 28 = x28 at *
        generalize x 29 = x29 at *
        generalize x 30 = x30 at *
        generalize x 31 = x31 at *
        generalize x 32 = x32 at *
        generalize x 33 = x33 at *
        generalize x 34 = x34 at *
        generalize x 35 = x35 at *
        generalize x 36 = x36 at *
        generalize x 37 = x37 at *
        generalize x 38 = x38 at *
        generalize x 39 = x39 at *
        subst d23
        go_simp
        refine (num_any a _ HA.out).mono ?_
        rintro e w2 ⟨v2, rfl, n2, b2⟩
        exact hK v2 w2 b2 n2
      · simp only [puts, Act.put, List.setIfInBounds_toArray, List.set_cons_zero, List.set_cons_succ, Nat.reduceAdd, Nat.zero_add] at hK ⊢
        clear hd
        generalize x 0 = x0 at *
        generalize x 1 = x1 at *
        generalize x 2 = x2 at *
        generalize x 3 = x3 at *
        generalize x 4 = x4 at *
        generalize x 5 = x5 at *
        generalize x 6 = x6 at *
        generalize x 7 = x7 at *
        generalize x 8 = x8 at *
        generalize x 9 = x9 at *
        generalize x 10 = x10 at *
        generalize x 11 = x11 at *
        generalize x 12 = x12 at *
        generalize x 13 = x13 at *
        generalize x 14 = x14 at *
        generalize x 15 = x15 at *
        generalize x 16 = x16 at *
        generalize x 17 = x17 at *
        generalize x 18 = x18 at *
        generalize x 19 = x19 at *
        generalize x 20 = x20 at *
        generalize x 21 = x21 at *
        generalize x 22 = x22 at *
        generalize x 23 = x23 at *
        generalize x 24 = x24 at *
        generalize x 25 = x25 at *
        generalize x 26 = x26 at *
        generalize x 27 = x27 at *
        generalize x 28 = x28 at *
        generalize x 29 = x29 at *
        generalize x 30 = x30 at *
        generalize x 31 = x31 at *
        generalize x 32 = x32 at *
        generalize x 33 = x33 at *
        generalize x 34 = x34 at *
        generalize x 35 = x35 at *
        generalize x 36 = x36 at *
        generalize x 37 = x37 at *
        generalize x 38 = x38 at *
        generalize x 39 = x39 at *
        obtain ⟨c0, c1⟩ := hB.c2 mem2
        go_simp
        exact hK _ _ (Below.refl _ _) rfl
      · simp only [puts, Act.put, List.setIfInBounds_toArray, List.set_cons_zero, List.set_cons_succ, Nat.reduceAdd, Nat.zero_add] at hK ⊢
        have d25 : x 25 = wideV b := hd 25 (by decide)
        clear hd
        generalize x 0 = x0 at *
        generalize x 1 = x1 at *
        generalize x 2 = x2 at *
        generalize x 3 = x3 at *
        generalize x 4 = x4 at *
        generalize x 5 = x5 at *
        generalize x 6 = x6 at *
        generalize x 7 = x7 at *
        generalize x 8 = x8 at *
        generalize x 9 = x9 at *
        generalize x 10 = x10 at *
        generalize x 11 = x11 at *
        generalize x 12 = x12 at *
        generalize x 13 = x13 at *
        generalize x 14 = x14 at *
        generalize x 15 = x15 at *
        generalize x 16 = x16 at *
        generalize x 17 = x17 at *
        generalize x 18 = x18 at *
        generalize x 19 = x19 at *
        generalize x 20 = x20 at *
        generalize x 21 = x21 at *
        generalize x 22 = x22 at *
        generalize x 23 = x23 at *
        generalize x 24 = x24 at *
        generalize x 25 = x25 at *
        generalize x 26 = x26 at *
        generalize x 27 = x27 at *
        generalize x 28 = x28 at *
        generalize x 29 = x29 at *
        generalize x 30 = x30 at *
        generalize x 31 = x31 at *
        generalize x 32 = x32 at *
        generalize x 33 = x33 at *
        generalize x 34 = x34 at *
        generalize x 35 = x35 at *
        generalize x 36 = x36 at *
        generalize x 37 = x37 at *
        generalize x 38 = x38 at *
        generalize x 39 = x39 at *
        subst d25
        go_simp
        refine (num_any b _ HB.out).mono ?_
        rintro e w2 ⟨v2, rfl, n2, b2⟩
        exact hK v2 w2 b2 n2
      · simp only [puts, Act.put, List.setIfInBounds_toArray, List.set_cons_zero, List.set_cons_succ, Nat.reduceAdd, Nat.zero_add] at hK ⊢
        have d24 : NumIs W (x 24) a := hd 24 (by decide)
        have d26 : NumIs W (x 26) b := hd 26 (by decide)
        clear hd
        generalize x 0 = x0 at *
        generalize x 1 = x1 at *
        generalize x 2 = x2 at *
        generalize x 3 = x3 at *
        generalize x 4 = x4 at *
        generalize x 5 = x5 at *
        generalize x 6 = x6 at *
        generalize x 7 = x7 at *
        generalize x 8 = x8 at *
        generalize x 9 = x9 at *
        generalize x 10 = x10 at *
        generalize x 11 = x11 at *
        generalize x 12 = x12 at *
        generalize x 13 = x13 at *
        generalize x 14 = x14 at *
        generalize x 15 = x15 at *
        generalize x 16 = x16 at *
        generalize x 17 = x17 at *
        generalize x 18 = x18 at *
        generalize x 19 = x19 at *
        generalize x 20 = x20 at *
        generalize x 21 = x21 at *
        generalize x 22 = x22 at *
        generalize x 23 = x23 at *
        generalize x 24 = x24 at *
        generalize x 25 = x25 at *
        generalize x 26 = x26 at *
        generalize x 27 = x27 at *
        generalize x 28 = x28 at *
        generalize x 29 = x29 at *
        generalize x 30 = x30 at *
        generalize x 31 = x31 at *
        generalize x 32 = x32 at *
        generalize x 33 = x33 at *
        generalize x 34 = x34 at *
        generalize x 35 = x35 at *
        generalize x 36 = x36 at *
        generalize x 37 = x37 at *
        generalize x 38 = x38 at *
        generalize x 39 = x39 at *
        have D24 := hid d24
        clear d24
        have D26 := hid d26
        clear d26
        go_simp
        refine (cmp_any _ _ a b _ D24.out D26.out HA.out.small HB.out.small (sub_mid HA.out HB.out).small).mono ?_
        rintro e w2 ⟨rfl, b2⟩
        exact hK _ w2 b2 rfl
      · simp only [puts, Act.put, List.setIfInBounds_toArray, List.set_cons_zero, List.set_cons_succ, Nat.reduceAdd, Nat.zero_add] at hK ⊢
        have d22 : x 22 = .int .i64 (cmpOf a b) := hd 22 (by decide)
        have d27 : x 27 = .int .i64 (cmpOf a b) := hd 27 (by decide)
        clear hd
        generalize x 0 = x0 at *
        generalize x 1 = x1 at *
        generalize x 2 = x2 at *
        generalize x 3 = x3 at *
        generalize x 4 = x4 at *
        generalize x 5 = x5 at *
        generalize x 6 = x6 at *
        generalize x 7 = x7 at *
        generalize x 8 = x8 at *
        generalize x 9 = x9 at *
        generalize x 10 = x10 at *
        generalize x 11 = x11 at *
        generalize x 12 = x12 at *
        generalize x 13 = x13 at *
        generalize x 14 = x14 at *
        generalize x 15 = x15 at *
        generalize x 16 = x16 at *
        generalize x 17 = x17 at *
        generalize x 18 = x18 at *
        generalize x 19 = x19 at *
        generalize x 20 = x20 at *
        generalize x 21 = x21 at *
        generalize x 22 = x22 at *
        generalize x 23 = x23 at *
        generalize x 24 = x24 at *
        generalize x 25 = x25 at *
        generalize x 26 = x26 at *
        generalize x 27 = x27 at *
        generalize x 28 = x28 at *
        generalize x 29 = x29 at *
        generalize x 30 = x30 at *
        generalize x 31 = x31 at *
        generalize x 32 = x32 at *
        generalize x 33 = x33 at *
        generalize x 34 = x34 at *
        generalize x 35 = x35 at *
        generalize x 36 = x36 at *
        generalize x 37 = x37 at *
        generalize x 38 = x38 at *
        generalize x 39 = x39 at *
        subst d22
        subst d27
        go_simp
        exact hK _ _ (Below.refl _ _) rfl
      · simp only [puts, Act.put, List.setIfInBounds_toArray, List.set_cons_zero, List.set_cons_succ, Nat.reduceAdd, Nat.zero_add] at hK ⊢
        have d19 : x 19 = .bool true := hd 19 (by decide)
        have d28 : x 28 = .bool true := hd 28 (by decide)
        clear hd
        generalize x 0 = x0 at *
        generalize x 1 = x1 at *
        generalize x 2 = x2 at *
        generalize x 3 = x3 at *
        generalize x 4 = x4 at *
        generalize x 5 = x5 at *
        generalize x 6 = x6 at *
        generalize x 7 = x7 at *
        generalize x 8 = x8 at *
        generalize x 9 = x9 at *
        generalize x 10 = x10 at *
        generalize x 11 = x11 at *
        generalize x 12 = x12 at *
        generalize x 13 = x13 at *
        generalize x 14 = x14 at *
        generalize x 15 = x15 at *
        generalize x 16 = x16 at *
        generalize x 17 = x17 at *
        generalize x 18 = x18 at *
        generalize x 19 = x19 at *
        generalize x 20 = x20 at *
        generalize x 21 = x21 at *
        generalize x 22 = x22 at *
        generalize x 23 = x23 at *
        generalize x 24 = x24 at *
        generalize x 25 = x25 at *
        generalize x 26 = x26 at *
        generalize x 27 = x27 at *
        generalize x 28 = x28 at *
        generalize x 29 = x29 at *
        generalize x 30 = x30 at *
        generalize x 31 = x31 at *
        generalize x 32 = x32 at *
        generalize x 33 = x33 at *
        generalize x 34 = x34 at *
        generalize x 35 = x35 at *
        generalize x 36 = x36 at *
        generalize x 37 = x37 at *
        generalize x 38 = x38 at *
        generalize x 39 = x39 at *
        subst d19
        subst d28
        go_simp
        exact hK _ _ (Below.refl _ _) rfl
      · simp only [puts, Act.put, List.setIfInBounds_toArray, List.set_cons_zero, List.set_cons_succ, Nat.reduceAdd, Nat.zero_add] at hK ⊢
        have d29 : x 29 = .bool true := hd 29 (by decide)
        clear hd
        generalize x 0 = x0 at *
        generalize x 1 = x1 at *
        generalize x 2 = x2 at *
        generalize x 3 = x3 at *
        generalize x 4 = x4 at *
        generalize x 5 = x5 at *
        generalize x 6 = x6 at *
        generalize x 7 = x7 at *
        generalize x 8 = x8 at *
        generalize x 9 = x9 at *
        generalize x 10 = x10 at *
        generalize x 11 = x11 at *
        generalize x 12 = x12 at *
        generalize x 13 = x13 at *
        generalize x 14 = x14 at *
        generalize x 15 = x15 at *
        generalize x 16 = x16 at *
        generalize x 17 = x17 at *
        generalize x 18 = x18 at *
        generalize x 19 = x19 at *
        generalize x 20 = x20 at *
        generalize x 21 = x21 at *
        generalize x 22 = x22 at *
        generalize x 23 = x23 at *
        generalize x 24 = x24 at *
        generalize x 25 = x25 at *
        generalize x 26 = x26 at *
        generalize x 27 = x27 at *
        generalize x 28 = x28 at *
        generalize x 29 = x29 at *
        generalize x 30 = x30 at *
        generalize x 31 = x31 at *
        generalize x 32 = x32 at *
        generalize x 33 = x33 at *
        generalize x 34 = x34 at *
        generalize x 35 = x35 at *
        generalize x 36 = x36 at *
        generalize x 37 = x37 at *
        generalize x 38 = x38 at *
        generalize x 39 = x39 at *
        subst d29
        go_simp
        exact hK _ _ (Below.refl _ _) rfl
      · simp only [puts, Act.put, List.setIfInBounds_toArray, List.set_cons_zero, List.set_cons_succ, Nat.reduceAdd, Nat.zero_add] at hK ⊢
        clear hd
        generalize x 0 = x0 at *
        generalize x 1 = x1 at *
        generalize x 2 = x2 at *
        generalize x 3 = x3 at *
        generalize x 4 = x4 at *
        generalize x 5 = x5 at *
        generalize x 6 = x6 at *
        generalize x 7 = x7 at *
        generalize x 8 = x8 at *
        generalize x 9 = x9 at *
        generalize x 10 = x10 at *
        generalize x 11 = x11 at *
        generalize x 12 = x12 at *
        generalize x 13 = x13 at *
        generalize x 14 = x14 at *
        generalize x 15 = x15 at *
        generalize x 16 = x16 at *
        generalize x 17 = x17 at *
        generalize x 18 = x18 at *
        generalize x 19 = x19 at *
        generalize x 20 = x20 at *
        generalize x 21 = x21 at *
        generalize x 22 = x22 at *
        generalize x 23 = x23 at *
        generalize x 24 = x24 at *
        generalize x 25 = x25 at *
        generalize x 26 = x26 at *
        generalize x 27 = x27 at *
        generalize x 28 = x28 at *
        generalize x 29 = x29 at *
        generalize x 30 = x30 at *
        generalize x 31 = x31 at *
        generalize x 32 = x32 at *
        generalize x 33 = x33 at *
        generalize x 34 = x34 at *
        generalize x 35 = x35 at *
        generalize x 36 = x36 at *
        generalize x 37 = x37 at *
        generalize x 38 = x38 at *
        generalize x 39 = x39 at *
        go_simp
        exact hK _ _ (Below.refl _ _) rfl
      · simp only [puts, Act.put, List.setIfInBounds_toArray, List.set_cons_zero, List.set_cons_succ, Nat.reduceAdd, Nat.zero_add] at hK ⊢
        clear hd
        generalize x 0 = x0 at *
        generalize x 1 = x1 at *
        generalize x 2 = x2 at *
        generalize x 3 = x3 at *
        generalize x 4 = x4 at *
        generalize x 5 = x5 at *
        generalize x 6 = x6 at *
        generalize x 7 = x7 at *
        generalize x 8 = x8 at *
        generalize x 9 = x9 at *
        generalize x 10 = x10 at *
        generalize x 11 = x11 at *
        generalize x 12 = x12 at *
        generalize x 13 = x13 at *
        generalize x 14 = x14 at *
        generalize x 15 = x15 at *
        generalize x 16 = x16 at *
        generalize x 17 = x17 at *
        generalize x 18 = x18 at *
        generalize x 19 = x19 at *
        generalize x 20 = x20 at *
        generalize x 21 = x21 at *
        generalize x 22 = x22 at *
        generalize x 23 = x23 at *
        generalize x 24 = x24 at *
        generalize x 25 = x25 at *
        generalize x 26 = x26 at *
        generalize x 27 = x27 at *
        generalize x 28 = x28 at *
        generalize x 29 = x29 at *
        generalize x 30 = x30 at *
        generalize x 31 = x31 at *
        generalize x 32 = x32 at *
        generalize x 33 = x33 at *
        generalize x 34 = x34 at *
        generalize x 35 = x35 at *
        generalize x 36 = x36 at *
        generalize x 37 = x37 at *
        generalize x 38 = x38 at *
        generalize x 39 = x39 at *
        go_simp
        exact hK _ _ (Below.refl _ _) rfl
      · simp only [puts, Act.put, List.setIfInBounds_toArray, List.set_cons_zero, List.set_cons_succ, Nat.reduceAdd, Nat.zero_add] at hK ⊢
        have d31 : x 31 = .int .i64 (sat a) := hd 31 (by decide)
        have d32 : x 32 = .int .i64 (sat a) := hd 32 (by decide)
        clear hd
        generalize x 0 = x0 at *
        generalize x 1 = x1 at *
        generalize x 2 = x2 at *
        generalize x 3 = x3 at *
        generalize x 4 = x4 at *
        generalize x 5 = x5 at *
        generalize x 6 = x6 at *
        generalize x 7 = x7 at *
        generalize x 8 = x8 at *
        generalize x 9 = x9 at *
        generalize x 10 = x10 at *
        generalize x 11 = x11 at *
        generalize x 12 = x12 at *
        generalize x 13 = x13 at *
        generalize x 14 = x14 at *
        generalize x 15 = x15 at *
        generalize x 16 = x16 at *
        generalize x 17 = x17 at *
        generalize x 18 = x18 at *
        generalize x 19 = x19 at *
        generalize x 20 = x20 at *
        generalize x 21 = x21 at *
        generalize x 22 = x22 at *
        generalize x 23 = x23 at *
        generalize x 24 = x24 at *
        generalize x 25 = x25 at *
        generalize x 26 = x26 at *
        generalize x 27 = x27 at *
        generalize x 28 = x28 at *
        generalize x 29 = x29 at *
        generalize x 30 = x30 at *
        generalize x 31 = x31 at *
        generalize x 32 = x32 at *
        generalize x 33 = x33 at *
        generalize x 34 = x34 at *
        generalize x 35 = x35 at *
        generalize x 36 = x36 at *
        generalize x 37 = x37 at *
        generalize x 38 = x38 at *
        generalize x 39 = x39 at *
        subst d31
        subst d32
        go_simp
        exact hK _ _ (Below.refl _ _) rfl
      · simp only [puts, Act.put, List.setIfInBounds_toArray, List.set_cons_zero, List.set_cons_succ, Nat.reduceAdd, Nat.zero_add] at hK ⊢
        have d30 : x 30 = .bool true := hd 30 (by decide)
        have d33 : x 33 = .bool true := hd 33 (by decide)
        clear hd
        generalize x 0 = x0 at *
        generalize x 1 = x1 at *
        generalize x 2 = x2 at *
        generalize x 3 = x3 at *
        generalize x 4 = x4 at *
        generalize x 5 = x5 at *
        generalize x 6 = x6 at *
        generalize x 7 = x7 at *
        generalize x 8 = x8 at *
        generalize x 9 = x9 at *
        generalize x 10 = x10 at *
        generalize x 11 = x11 at *
        generalize x 12 = x12 at *
        generalize x 13 = x13 at *
        generalize x 14 = x14 at *
        generalize x 15 = x15 at *
        generalize x 16 = x16 at *
        generalize x 17 = x17 at *
        generalize x 18 = x18 at *
        generalize x 19 = x19 at *
        generalize x 20 = x20 at *
        generalize x 21 = x21 at *
        generalize x 22 = x22 at *
        generalize x 23 = x23 at *
        generalize x 24 = x24 at *
        generalize x 25 = x25 at *
        generalize x 26 = x26 at *
        generalize x 27 = x27 at *
        generalize x 28 = x28 at *
        generalize x 29 = x29 at *
        generalize x 30 = x30 at *
        generalize x 31 = x31 at *
        generalize x 32 = x32 at *
        generalize x 33 = x33 at *
        generalize x 34 = x34 at *
        generalize x 35 = x35 at *
        generalize x 36 = x36 at *
        generalize x 37 = x37 at *
        generalize x 38 = x38 at *
        generalize x 39 = x39 at *
        subst d30
        subst d33
        go_simp
        exact hK _ _ (Below.refl _ _) rfl
      · simp only [puts, Act.put, List.setIfInBounds_toArray, List.set_cons_zero, List.set_cons_succ, Nat.reduceAdd, Nat.zero_add] at hK ⊢
        have d34 : x 34 = .bool true := hd 34 (by decide)
        clear hd
        generalize x 0 = x0 at *
        generalize x 1 = x1 at *
        generalize x 2 = x2 at *
        generalize x 3 = x3 at *
        generalize x 4 = x4 at *
        generalize x 5 = x5 at *
        generalize x 6 = x6 at *
        generalize x 7 = x7 at *
        generalize x 8 = x8 at *
        generalize x 9 = x9 at *
        generalize x 10 = x10 at *
        generalize x 11 = x11 at *
        generalize x 12 = x12 at *
        generalize x 13 = x13 at *
        generalize x 14 = x14 at *
        generalize x 15 = x15 at *
        generalize x 16 = x16 at *
        generalize x 17 = x17 at *
        generalize x 18 = x18 at *
        generalize x 19 = x19 at *
        generalize x 20 = x20 at *
        generalize x 21 = x21 at *
        generalize x 22 = x22 at *
        generalize x 23 = x23 at *
        generalize x 24 = x24 at *
        generalize x 25 = x25 at *
        generalize x 26 = x26 at *
        generalize x 27 = x27 at *
        generalize x 28 = x28 at *
        generalize x 29 = x29 at *
        generalize x 30 = x30 at *
        generalize x 31 = x31 at *
        generalize x 32 = x32 at *
        generalize x 33 = x33 at *
        generalize x 34 = x34 at *
        generalize x 35 = x35 at *
        generalize x 36 = x36 at *
        generalize x 37 = x37 at *
        generalize x 38 = x38 at *
        generalize x 39 = x39 at *
        subst d34
        go_simp
        exact hK _ _ (Below.refl _ _) rfl
      · simp only [puts, Act.put, List.setIfInBounds_toArray, List.set_cons_zero, List.set_cons_succ, Nat.reduceAdd, Nat.zero_add] at hK ⊢
        clear hd
        generalize x 0 = x0 at *
        generalize x 1 = x1 at *
        generalize x 2 = x2 at *
        generalize x 3 = x3 at *
        generalize x 4 = x4 at *
        generalize x 5 = x5 at *
        generalize x 6 = x6 at *
        generalize x 7 = x7 at *
        generalize x 8 = x8 at *
        generalize x 9 = x9 at *
        generalize x 10 = x10 at *
        generalize x 11 = x11 at *
        generalize x 12 = x12 at *
        generalize x 13 = x13 at *
        generalize x 14 = x14 at *
        generalize x 15 = x15 at *
        generalize x 16 = x16 at *
        generalize x 17 = x17 at *
        generalize x 18 = x18 at *
        generalize x 19 = x19 at *
        generalize x 20 = x20 at *
        generalize x 21 = x21 at *
        generalize x 22 = x22 at *
        generalize x 23 = x23 at *
        generalize x 24 = x24 at *
        generalize x 25 = x25 at *
        generalize x 26 = x26 at *
        generalize x 27 = x27 at *
        generalize x 28 = x28 at *
        generalize x 29 = x29 at *
        generalize x 30 = x30 at *
        generalize x 31 = x31 at *
        generalize x 32 = x32 at *
        generalize x 33 = x33 at *
        generalize x 34 = x34 at *
        generalize x 35 = x35 at *
        generalize x 36 = x36 at *
        generalize x 37 = x37 at *
        generalize x 38 = x38 at *
        generalize x 39 = x39 at *
        go_simp
        exact hK _ _ (Below.refl _ _) rfl
      · simp only [puts, Act.put, List.setIfInBounds_toArray, List.set_cons_zero, List.set_cons_succ, Nat.reduceAdd, Nat.zero_add] at hK ⊢
        clear hd
        generalize x 0 = x0 at *
        generalize x 1 = x1 at *
        generalize x 2 = x2 at *
        generalize x 3 = x3 at *
        generalize x 4 = x4 at *
        generalize x 5 = x5 at *
        generalize x 6 = x6 at *
        generalize x 7 = x7 at *
        generalize x 8 = x8 at *
        generalize x 9 = x9 at *
        generalize x 10 = x10 at *
        generalize x 11 = x11 at *
        generalize x 12 = x12 at *
        generalize x 13 = x13 at *
        generalize x 14 = x14 at *
        generalize x 15 = x15 at *
        generalize x 16 = x16 at *
        generalize x 17 = x17 at *
        generalize x 18 = x18 at *
        generalize x 19 = x19 at *
        generalize x 20 = x20 at *
        generalize x 21 = x21 at *
        generalize x 22 = x22 at *
        generalize x 23 = x23 at *
        generalize x 24 = x24 at *
        generalize x 25 = x25 at *
        generalize x 26 = x26 at *
        generalize x 27 = x27 at *
        generalize x 28 = x28 at *
        generalize x 29 = x29 at *
        generalize x 30 = x30 at *
        generalize x 31 = x31 at *
        generalize x 32 = x32 at *
        generalize x 33 = x33 at *
        generalize x 34 = x34 at *
        generalize x 35 = x35 at *
        generalize x 36 = x36 at *
        generalize x 37 = x37 at *
        generalize x 38 = x38 at *
        generalize x 39 = x39 at *
        go_simp
        exact hK _ _ (Below.refl _ _) rfl
      · simp only [puts, Act.put, List.setIfInBounds_toArray, List.set_cons_zero, List.set_cons_succ, Nat.reduceAdd, Nat.zero_add] at hK ⊢
        have d36 : x 36 = .bool (decide (Fits a)) := hd 36 (by decide)
        have d37 : x 37 = .bool (decide (Fits a)) := hd 37 (by decide)
        clear hd
        generalize x 0 = x0 at *
        generalize x 1 = x1 at *
        generalize x 2 = x2 at *
        generalize x 3 = x3 at *
        generalize x 4 = x4 at *
        generalize x 5 = x5 at *
        generalize x 6 = x6 at *
        generalize x 7 = x7 at *
        generalize x 8 = x8 at *
        generalize x 9 = x9 at *
        generalize x 10 = x10 at *
        generalize x 11 = x11 at *
        generalize x 12 = x12 at *
        generalize x 13 = x13 at *
        generalize x 14 = x14 at *
        generalize x 15 = x15 at *
        generalize x 16 = x16 at *
        generalize x 17 = x17 at *
        generalize x 18 = x18 at *
        generalize x 19 = x19 at *
        generalize x 20 = x20 at *
        generalize x 21 = x21 at *
        generalize x 22 = x22 at *
        generalize x 23 = x23 at *
        generalize x 24 = x24 at *
        generalize x 25 = x25 at *
        generalize x 26 = x26 at *
        generalize x 27 = x27 at *
        generalize x 28 = x28 at *
        generalize x 29 = x29 at *
        generalize x 30 = x30 at *
        generalize x 31 = x31 at *
        generalize x 32 = x32 at *
        generalize x 33 = x33 at *
        generalize x 34 = x34 at *
        generalize x 35 = x35 at *
        generalize x 36 = x36 at *
        generalize x 37 = x37 at *
        generalize x 38 = x38 at *
        generalize x 39 = x39 at *
        subst d36
        subst d37
        go_simp
        exact hK _ _ (Below.refl _ _) rfl
      · simp only [puts, Act.put, List.setIfInBounds_toArray, List.set_cons_zero, List.set_cons_succ, Nat.reduceAdd, Nat.zero_add] at hK ⊢
        have d35 : x 35 = .bool true := hd 35 (by decide)
        have d38 : x 38 = .bool true := hd 38 (by decide)
        clear hd
        generalize x 0 = x0 at *
        generalize x 1 = x1 at *
        generalize x 2 = x2 at *
        generalize x 3 = x3 at *
        generalize x 4 = x4 at *
        generalize x 5 = x5 at *
        generalize x 6 = x6 at *
        generalize x 7 = x7 at *
        generalize x 8 = x8 at *
        generalize x 9 = x9 at *
        generalize x 10 = x10 at *
        generalize x 11 = x11 at *
        generalize x 12 = x12 at *
        generalize x 13 = x13 at *
        generalize x 14 = x14 at *
        generalize x 15 = x15 at *
        generalize x 16 = x16 at *
        generalize x 17 = x17 at *
        generalize x 18 = x18 at *
        generalize x 19 = x19 at *
        generalize x 20 = x20 at *
        generalize x 21 = x21 at *
        generalize x 22 = x22 at *
        generalize x 23 = x23 at *
        generalize x 24 = x24 at *
        generalize x 25 = x25 at *
        generalize x 26 = x26 at *
        generalize x 27 = x27 at *
        generalize x 28 = x28 at *
        generalize x 29 = x29 at *
        generalize x 30 = x30 at *
        generalize x 31 = x31 at *
        generalize x 32 = x32 at *
        generalize x 33 = x33 at *
        generalize x 34 = x34 at *
        generalize x 35 = x35 at *
        generalize x 36 = x36 at *
        generalize x 37 = x37 at *
        generalize x 38 = x38 at *
        generalize x 39 = x39 at *
        subst d35
        subst d38
        go_simp
        exact hK _ _ (Below.refl _ _) rfl
    · intro x W hB hd
      have d39 : x 39 = .bool true := hd 39 (by decide)
      clear hd
      simp only [List.take_succ_cons, List.take_zero]
      simp only [puts, Act.put, List.setIfInBounds_toArray, List.set_cons_zero, List.set_cons_succ, Nat.reduceAdd, Nat.zero_add]
      generalize x 0 = x0 at *
      generalize x 1 = x1 at *
      generalize x 2 = x2 at *
      generalize x 3 = x3 at *
      generalize x 4 = x4 at *
      generalize x 5 = x5 at *
      generalize x 6 = x6 at *
      generalize x 7 = x7 at *
      generalize x 8 = x8 at *
      generalize x 9 = x9 at *
      generalize x 10 = x10 at *
      generalize x 11 = x11 at *
      generalize x 12 = x12 at *
      generalize x 13 = x13 at *
      generalize x 14 = x14 at *
      generalize x 15 = x15 at *
      generalize x 16 = x16 at *
      generalize x 17 = x17 at *
      generalize x 18 = x18 at *
      generalize x 19 = x19 at *
      generalize x 20 = x20 at *
      generalize x 21 = x21 at *
      generalize x 22 = x22 at *
      generalize x 23 = x23 at *
      generalize x 24 = x24 at *
      generalize x 25 = x25 at *
      generalize x 26 = x26 at *
      generalize x 27 = x27 at *
      generalize x 28 = x28 at *
      generalize x 29 = x29 at *
      generalize x 30 = x30 at *
      generalize x 31 = x31 at *
      generalize x 32 = x32 at *
      generalize x 33 = x33 at *
      generalize x 34 = x34 at *
      generalize x 35 = x35 at *
      generalize x 36 = x36 at *
      generalize x 37 = x37 at *
      generalize x 38 = x38 at *
      generalize x 39 = x39 at *
      subst d39
      go_simp
      go_wp2_with fail
      go_ret
      exact ⟨rfl, BW.out.trans (hB.bel.mono BW.out.size)⟩
end Go.Proofs.YtjhekggeofalfaaDoor
