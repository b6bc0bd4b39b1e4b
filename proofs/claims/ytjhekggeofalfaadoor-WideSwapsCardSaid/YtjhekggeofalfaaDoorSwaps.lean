/- noonmarklaw02.WideSwaps returns true at every input and writes nothing that was there. -/
import Derived.Test.YtjhekggeofalfaaDoorAliveW
import Derived.Deep.DeepCutAuto
namespace Go.Proofs.YtjhekggeofalfaaDoor
open Go.RowKit

theorem longs_new2 (w : World) (a b : Int) : IsLongs (w.alloc (.cells #[.int .i64 a, .int .i64 b] 2)) (.slice (some ⟨w.heap.size, 0, none⟩) 2 2) [a, b] := by
  have h := heap_alloc_new w (.cells #[.int .i64 a, .int .i64 b] 2)
  refine ⟨_, 2, rfl, Nat.le_refl _, by decide, .inr ⟨w.heap.size, 0, rfl, by simp, fun i hi => ?_⟩⟩
  rw [Nat.zero_add, cell_of_row _ _ i _ _ _ h]
  match i, hi with
  | 0, _ => rfl
  | 1, _ => rfl
theorem sum2 (a b : Int) : sumI [a, b] = a + b := by simp [sumI]
theorem sum3 (a b c : Int) : sumI [a, b, c] = a + b + c := by simp [sumI]
theorem mul_fits2 {x y : Int} (hx : Fits x) (hy : Fits y) : Fits2 (x * y) := by
  obtain ⟨p0, p1, p2⟩ := times_words hx hy
  have : (x * y).natAbs = x.natAbs * y.natAbs := Int.natAbs_mul x y
  exact ⟨by omega, by omega⟩
theorem sat2_fits (z : Int) : Fits2 (sat2 z) := by
  by_cases h : Fits2 z
  · rw [sat2_yes h]; exact h
  · rw [sat2_no h]; exact ⟨by decide, by decide⟩

set_option maxRecDepth 100000 in
set_option maxHeartbeats 4000000 in
theorem wideSwaps_any (a b x y z : Int) (w : World) (htab : PowTab w) (ha : Fits2 a) (hb : Fits2 b) (hx : Fits x) (hy : Fits y) (hz : Fits z) :
    Calls Tryd.prog 7 #[wideV a, wideV b, .int .i64 x, .int .i64 y, .int .i64 z] w fun e w' => e = .returned (.bool true) ∧ Below w.heap.size w w' := by
  have T := hid (fun W (hW : Below w.heap.size w W) => PowTab.below htab hW)
  have C1 := hid (fun W => wideAdd_any a b W ha hb)
  have C2 := hid (fun W => wideAdd_any b a W hb ha)
  have C3 := hid (fun W => wideTimes_any x y W hx hy)
  have C4 := hid (fun W => wideTimes_any y x W hy hx)
  have C5 := hid (fun W => wideTimes_any x z W hx hz)
  have C6 := hid (show ∀ (_ : Fits (y + z)) (W : World), Calls Tryd.prog 9 #[wideV (x * y), wideV (x * z)] W fun e w' => e = .returned (.tuple #[wideV (x * y + x * z), .int .i64 0]) ∧ Below W.heap.size W w' from fun f W => by
    have h := wideAdd_any (x * y) (x * z) W (mul_fits2 hx hy) (mul_fits2 hx hz)
    have g : Fits2 (x * y + x * z) := by rw [← Int.mul_add]; exact mul_fits2 hx f
    rwa [sat2_yes g, err2_yes g] at h)
  have C7 := hid (show ∀ (_ : Fits (y + z)) (W : World), Calls Tryd.prog 22 #[.int .i64 x, .int .i64 (y + z)] W fun e w' => e = .returned (wideV (x * y + x * z)) ∧ Below W.heap.size W w' from fun f W => by
    have h := wideTimes_any x (y + z) W hx f
    rwa [Int.mul_add] at h)
  have C8 := hid (fun (v : Value) (W : World) (h : IsLongs W v [x, y, z]) => wideSum_any v [x, y, z] W h (by intro t ht; simp at ht; rcases ht with rfl | rfl | rfl <;> assumption))
  have C9 := hid (fun (v : Value) (W : World) (h : IsLongs W v [z, x, y]) => wideSum_any v [z, x, y] W h (by intro t ht; simp at ht; rcases ht with rfl | rfl | rfl <;> assumption))
  have C10 := hid (fun (v : Value) (W : World) (h : IsLongs W v [y, z]) => wideSum_any v [y, z] W h (by intro t ht; simp at ht; rcases ht with rfl | rfl <;> assumption))
  have C11 := hid (fun W => wideLong_any (y + z) W ⟨by have := hy.lo; have := hz.lo; omega, by have := hy.hi; have := hz.hi; omega⟩)
  rw [sum3] at C8 C9
  rw [sum2] at C10
  rw [show z + x + y = x + y + z by omega] at C9
  have HX := hid hx
  have HY := hid hy
  have HZ := hid hz
  have HA := hid ha
  have HB := hid hb
  rw [Int.add_comm b a] at C2
  rw [Int.mul_comm y x] at C4
  have SUB := hid (fun W => wideSub_any (sat2 (a + b)) b W (sat2_fits _) hb)
  have ER := hid (show err2 (a + b) = 0 ∧ sat2 (a + b) - b = a ∨ err2 (a + b) = 12 by
    by_cases f : Fits2 (a + b)
    · rw [err2_yes f, sat2_yes f]; exact .inl ⟨rfl, by omega⟩
    · rw [err2_no f]; exact .inr rfl)
  clear htab ha hb hx hy hz
  unfold wideV at C1 C2 C3 C4 C5 C6 C7 C8 C9 C10 C11 SUB ⊢
  generalize hs : sat2 (a + b) = s at *
  generalize err2 (a + b) = er at *
  clear hs
  have B := hid (Blks.two w (.cells #[.int .i64 (a / 18446744073709551616), .int .u64 (a % 18446744073709551616)] 24) (.cells #[.int .i64 (b / 18446744073709551616), .int .u64 (b % 18446744073709551616)] 24))
  generalize ha1 : a / 18446744073709551616 = ah at *
  generalize ha2 : a % 18446744073709551616 = al at *
  generalize b / 18446744073709551616 = bh at *
  generalize b % 18446744073709551616 = bl at *
  generalize s / 18446744073709551616 = sh at *
  generalize s % 18446744073709551616 = sl at *
  have HA1 := hid ha1
  have HA2 := hid ha2
  clear ha1 ha2
  generalize x * y / 18446744073709551616 = mh at *
  generalize x * y % 18446744073709551616 = ml at *
  generalize x * z / 18446744073709551616 = nh at *
  generalize x * z % 18446744073709551616 = nl at *
  generalize (x * y + x * z) / 18446744073709551616 = ph at *
  generalize (x * y + x * z) % 18446744073709551616 = pl at *
  generalize (x + y + z) / 18446744073709551616 = th at *
  generalize (x + y + z) % 18446744073709551616 = tl at *
  generalize (y + z) / 18446744073709551616 = uh at *
  generalize (y + z) % 18446744073709551616 = ul at *
  go_enter Tryd.func7, Tryd.ntmps7
  go_wp2_with fail
  refine (alive_any _ (T.out _ B.out.bel)).mono ?_
  rintro e w1 ⟨rfl, b1⟩
  replace B := hid (B.out.below b1)
  clear b1
  obtain ⟨a0, a1⟩ := B.out.c2 mem1
  obtain ⟨b0, b1⟩ := B.out.c2 mem0
  go_wp2_with fail
  clear a0 a1 b0 b1
  refine (C1.out _).mono ?_
  rintro e w2 ⟨rfl, b1⟩
  replace B := hid ((B.out.below b1).add (.cells #[.int .i64 sh, .int .u64 sl] 24))
  clear b1
  obtain ⟨a0, a1⟩ := B.out.c2 mem2
  obtain ⟨b0, b1⟩ := B.out.c2 mem1
  go_wp2_with fail
  clear a0 a1 b0 b1
  refine (C2.out _).mono ?_
  rintro e w3 ⟨rfl, b1⟩
  replace B := hid ((B.out.below b1).add (.cells #[.int .i64 sh, .int .u64 sl] 24))
  clear b1
  obtain ⟨a0, a1⟩ := B.out.c2 mem1
  obtain ⟨b0, b1⟩ := B.out.c2 mem0
  go_wp2_with fail
  clear a0 a1 b0 b1
  refine (C3.out _).mono ?_
  rintro e w4 ⟨rfl, b1⟩
  replace B := hid (B.out.below b1)
  clear b1
  go_wp2_with fail
  refine (C4.out _).mono ?_
  rintro e w5 ⟨rfl, b1⟩
  replace B := hid (B.out.below b1)
  clear b1
  go_wp2_with fail
  replace B := hid (B.out.keep (.cells #[.int .i64 x, .int .i64 y, .int .i64 z] 2))
  refine (C8.out _ _ (sum_new _ x y z)).mono ?_
  rintro e w6 ⟨rfl, b1⟩
  replace B := hid (B.out.below b1)
  clear b1
  go_wp2_with fail
  replace B := hid (B.out.keep (.cells #[.int .i64 z, .int .i64 x, .int .i64 y] 2))
  refine (C9.out _ _ (sum_new _ z x y)).mono ?_
  rintro e w7 ⟨rfl, b1⟩
  replace B := hid (B.out.below b1)
  clear b1
  go_upto_if 66 with fail
  go_cut [] (fun wr => Below w.heap.size w wr)
  case first =>
    rcases ER.out with ⟨e0, es⟩ | e0
    · subst e0
      have ES := hid es
      clear es C3 C4 C5 C6 C7 C8 C9 C10 C11 ER
      obtain ⟨s0, s1⟩ := B.out.c2 mem1
      obtain ⟨b0, b1⟩ := B.out.c2 mem2
      go_wp2_with fail
      clear s0 s1 b0 b1
      have SB := SUB.out
      rw [ES.out, sat2_yes HA.out, err2_yes HA.out, HA1.out, HA2.out] at SB
      refine (SB _).mono ?_
      rintro e w8 ⟨rfl, b1⟩
      replace B := hid ((B.out.below b1).add (.cells #[.int .i64 ah, .int .u64 al] 24))
      clear b1 SB SUB
      obtain ⟨s0, s1⟩ := B.out.c2 mem0
      obtain ⟨a0, a1⟩ := B.out.c2 mem4
      go_wp2_with fail
      go_meet
      exact B.out.bel
    · subst e0
      go_wp2_with fail
      go_meet
      exact B.out.bel
  case rest =>
    clear SUB ER HA HB HA1 HA2 C8 C9
    replace B := hid (show Blks w wc [] from ⟨hcut, fun _ h => by cases h⟩)
    clear hcut
    go_wp2_with fail
    replace B := hid (B.out.keep (.cells #[.int .i64 y, .int .i64 z] 2))
    refine (C10.out _ _ (longs_new2 _ y z)).mono ?_
    rintro e w9 ⟨rfl, b1⟩
    replace B := hid (B.out.below b1)
    clear b1
    go_wp2_with fail
    by_cases f : Fits (y + z)
    · have C11' := C11.out
      rw [sat_yes f, decide_eq_true f] at C11'
      refine (C11' _).mono ?_
      rintro e w10 ⟨rfl, b1⟩
      replace B := hid (B.out.below b1)
      clear b1
      clear C11' C11 C10
      replace C6 := hid (C6.out f)
      replace C7 := hid (C7.out f)
      clear f
      generalize y + z = v at *
      go_wp2_with fail
      refine (C3.out _).mono ?_
      rintro e w11 ⟨rfl, b1⟩
      replace B := hid (B.out.below b1)
      clear b1
      go_wp2_with fail
      refine (C5.out _).mono ?_
      rintro e w12 ⟨rfl, b1⟩
      replace B := hid (B.out.below b1)
      clear b1
      go_wp2_with fail
      refine (C6.out _).mono ?_
      rintro e w13 ⟨rfl, b1⟩
      replace B := hid ((B.out.below b1).add (.cells #[.int .i64 ph, .int .u64 pl] 24))
      clear b1 C3 C4 C5 C6
      go_upto_region 15 with fail
      obtain ⟨L, hL, B⟩ := B.out.letter
      have ne := Wd.some_ B.out
      obtain ⟨s0, s1⟩ := Wd.k2 (w := w) hL mem0
      refine wp_region_tame w L B.out (by kernel_rfl) (by kernel_rfl) ?_
      repeat (go_big_quiet_step ((go_at_call 22; exact Calls.tame (C7.out _))))
      refine wpQuiet_nil (wd_all ?_)
      intro W1 B1
      go_wp2_with fail
      go_ret
      exact ⟨rfl, B1.bel⟩
    · have C11' := C11.out
      rw [sat_no f, decide_eq_false f] at C11'
      refine (C11' _).mono ?_
      rintro e w10 ⟨rfl, b1⟩
      replace B := hid (B.out.below b1)
      clear b1
      clear C11' C11 C10
      go_wp2_with fail
      go_ret
      exact ⟨rfl, B.out.bel⟩
end Go.Proofs.YtjhekggeofalfaaDoor
