/- noonmarklaw03.GapPoints returns true at every input and writes nothing that was there. -/
import Derived.Test.YtjhekggeofalfaaPts
import Derived.Test.YtjhekggeofalfaaAlive03
import Derived.Test.YtjhekggeofalfaaTame
import Derived.Deep.DeepCutAuto
namespace Go.Proofs.Ytjhekggeofalfaa
open Go.RowKit

theorem wrap_u64_in {z : Int} (h0 : 0 ≤ z) (h1 : z ≤ 18446744073709551615) : IntKind.u64.wrap z = z := by rw [u64_wrap]; omega

set_option maxRecDepth 100000 in
set_option maxHeartbeats 60000000 in
theorem gapPoints_any (v : Value) (gs : List G2) (x y : Int) (w : World) (h : IsGaps w v gs) (hf : ∀ g ∈ gs, Fits g.1 ∧ Fits g.2) (hx : Fits x) (hy0 : 0 ≤ y) (hy1 : y ≤ 4294967295) :
    Calls Try.prog 5 #[v, .int .i64 x, .int .u32 y] w fun e w' => e = .returned (.bool true) ∧ Below w.heap.size w w' := by
  have H := hid h
  have HF := hid hf
  have HX := hid hx
  clear hf hx
  obtain ⟨A, c, rfl, hlc, hm, -⟩ := h
  unfold maxLen at hm
  generalize hn : gs.length = n at *
  have HN := hid hn
  clear hn
  by_cases h100 : 100 < n
  · go_enter Try.func5, Try.ntmps5
    go_wp2_with fail
    refine (alive03_any _).mono ?_
    rintro r w1 ⟨rfl, t⟩
    go_wp2_with fail
    go_ret
    exact ⟨rfl, t⟩
  go_enter Try.func5, Try.ntmps5
  go_wp2_with fail
  refine (alive03_any _).mono ?_
  rintro r w1 ⟨rfl, t⟩
  have B0 := hid ((Blks.nil w).below t)
  clear t
  go_wp2_with fail
  go_loopw [7, 8, 9] (fun e s i wr => ∃ k : Nat, k ≤ n ∧ i = .int .i64 k ∧ e = .bool (allHas (gs.take k) x) ∧ s = .bool (anyHas (gs.take k) x) ∧ rightG (gs.take k) = true ∧ Blks w wr []) (fun _ _ i _ => n - (intOf i).toNat)
  case atStart => exact ⟨0, Nat.zero_le _, rfl, rfl, rfl, rfl, B0.out⟩
  case round =>
    obtain ⟨k, hk, rfl, rfl, rfl, hr, hB⟩ := hrel
    have HR := hid hr
    have HB := hid hB
    clear hr hB B0
    by_cases hlt : k < n
    · have hkg : k < gs.length := by have := HN.out; omega
      obtain ⟨b, o, hA, d0, d1⟩ := (H.out.below HB.out.bel).at_ hkg
      obtain ⟨g1, g2⟩ := HF.out _ (List.getElem_mem hkg)
      have HRS := hid (rightG_snoc gs k hkg)
      have HAS := hid (allHas_snoc gs k hkg x)
      have HSS := hid (anyHas_snoc gs k hkg x)
      generalize gs[k] = g at *
      obtain ⟨lo, hi⟩ := g
      subst hA
      have G1 := hid g1
      have G2 := hid g2
      clear hkg g1 g2
      generalize he : allHas (gs.take k) x = E at *
      generalize hs : anyHas (gs.take k) x = S at *
      have HE := hid he
      have HS := hid hs
      clear he hs
      by_cases hle : lo ≤ hi
      · have HM := hid (has_mid hle)
        have HL := hid (has_lo hle)
        have HH := hid (has_hi hle)
        have GP := hid (grow_points hle hy0)
        have FY := hid (show Fits y from ⟨by omega, by omega⟩)
        cases E <;> cases S
        · go_wp2_with fail
          refine (gapRight_any lo hi _).mono ?_
          rw [decide_eq_true hle]
          rintro r w2 ⟨rfl, t⟩
          have B := hid ((HB.out.add (.cells #[.int .i64 lo, .int .i64 hi] 23)).below t)
          clear t d0 d1
          generalize wr.heap.size = p at *
          obtain ⟨a0, a1⟩ := B.out.c2 mem0
          go_wp2_with fail
          refine (gapHas_any lo hi x _).mono ?_
          rintro r w3 ⟨rfl, t⟩
          replace B := hid (B.out.below t)
          clear t a0 a1
          obtain ⟨a0, a1⟩ := B.out.c2 mem0
          go_wp2_with fail
          clear a0 a1
          obtain ⟨L, hL, B⟩ := B.out.letter
          have ne := Wd.some_ B.out
          obtain ⟨a0, a1⟩ := Wd.k2 (w := w) hL mem0
          refine wp_region_tame w L B.out (by kernel_rfl) (by kernel_rfl) ?_
          repeat (go_big_quiet_step (first
            | (go_at_call 22; exact Calls.tame (gapMid_any lo hi _ G1.out G2.out))
            | (go_at_call 24; exact Calls.tame ((gapHas_any lo hi _ _).mono (by first | rw [HM.out]; exact fun _ _ h => h | rw [HL.out]; exact fun _ _ h => h | rw [HH.out]; exact fun _ _ h => h)))))
          refine wpQuiet_nil (wd_all ?_)
          intro W1 B1
          rw [hL.out] at B1
          have B := hid B1
          clear a0 a1 ne hL B1
          obtain ⟨a0, a1⟩ := B.out.c2 mem0
          go_wp2_with fail
          refine (gapGrow_any lo hi y y _ G1.out G2.out FY.out FY.out).mono ?_
          rcases GP.out with ⟨e0, f1, f2, gl, gh, wi, wd, wd0⟩ | e0
          · rw [e0, gl, gh]
            have F1 := hid f1
            have F2 := hid f2
            have WI := hid wi
            have U := hid (show 0 ≤ hi - lo ∧ hi - lo + 2 * y ≤ 18446744073709551615 by obtain ⟨u1, u2⟩ := f1; obtain ⟨u3, u4⟩ := f2; omega)
            generalize hi - lo = d at *
            have WD := hid wd
            have WE := hid wd0
            clear e0 f1 f2 gl gh wi wd wd0
            generalize lo - y = lo2 at *
            generalize hi + y = hi2 at *
            rintro r w5 ⟨rfl, t⟩
            replace B := hid (B.out.below t)
            replace B := hid (B.out.add (.cells #[.int .i64 lo2, .int .i64 hi2] 23))
            clear t a0 a1
            go_wp2_with fail
            obtain ⟨L, hL, B⟩ := B.out.letter
            have ne := Wd.some_ B.out
            obtain ⟨a0, a1⟩ := Wd.k2 (w := w) hL mem1
            obtain ⟨b0, b1⟩ := Wd.k2 (w := w) hL mem0
            obtain ⟨u0, u1⟩ := U.out
            have v1 := wrap_u64_in (z := y) hy0 (by omega)
            have v2 := wrap_u64_in (z := 2 * y) (by omega) (by omega)
            have v3 := wrap_u64_in (z := d + 2 * y) (by omega) (by omega)
            refine wp_region_tame w L B.out (by kernel_rfl) (by kernel_rfl) ?_
            repeat (go_big_quiet_step (first
              | (go_at_call 25; exact Calls.tame ((gapWithin_any lo hi lo2 hi2 _).mono (by rw [WI.out]; exact fun _ _ h => h)))
              | (go_at_call 26; with_reducible exact Calls.tame ((gapWidth_any lo2 hi2 _ F1.out F2.out).mono (by rw [WD.out]; exact fun _ _ h => h)))
              | (go_at_call 26; with_reducible exact Calls.tame ((gapWidth_any lo hi _ G1.out G2.out).mono (by rw [WE.out]; exact fun _ _ h => h)))))
            refine wpQuiet_nil (wd_all ?_)
            intro W3 B3
            rw [hL.out] at B3
            have B := hid B3
            clear a0 a1 b0 b1 u0 u1 v1 v2 v3 ne hL B3
            go_wp2_with fail
            go_roundw
            case rel => exact ⟨k + 1, by omega, by go_num, by rw [HAS.out]; rfl, by rw [HSS.out]; rfl, by rw [HRS.out, HR.out]; simpa using hle, B.out.sub (fun _ h => by cases h)⟩
            case measure => simp [intOf]; omega
          · generalize grErr lo hi y y = ge at *
            generalize grLo lo hi y y = lo2
            generalize grHi lo hi y y = hi2
            have q : (ge == 0) = false := by rw [beq_eq_false_iff_ne]; intro q; rw [q] at e0; simp at e0
            have Q := hid q
            clear q e0
            rintro r w5 ⟨rfl, t⟩
            replace B := hid (B.out.below t)
            replace B := hid (B.out.add (.cells #[.int .i64 lo2, .int .i64 hi2] 23))
            clear t a0 a1
            go_wp2_with fail
            obtain ⟨L, hL, B⟩ := B.out.letter
            have ne := Wd.some_ B.out
            have q := Q.out
            refine wp_region_tame w L B.out (by kernel_rfl) (by kernel_rfl) ?_
            repeat (go_big_quiet_step (fail))
            refine wpQuiet_nil (wd_all ?_)
            intro W3 B3
            rw [hL.out] at B3
            have B := hid B3
            clear ne hL B3 q
            go_wp2_with fail
            go_roundw
            case rel => exact ⟨k + 1, by omega, by go_num, by rw [HAS.out]; rfl, by rw [HSS.out]; rfl, by rw [HRS.out, HR.out]; simpa using hle, B.out.sub (fun _ h => by cases h)⟩
            case measure => simp [intOf]; omega
        · go_wp2_with fail
          refine (gapRight_any lo hi _).mono ?_
          rw [decide_eq_true hle]
          rintro r w2 ⟨rfl, t⟩
          have B := hid ((HB.out.add (.cells #[.int .i64 lo, .int .i64 hi] 23)).below t)
          clear t d0 d1
          generalize wr.heap.size = p at *
          obtain ⟨a0, a1⟩ := B.out.c2 mem0
          go_wp2_with fail
          clear a0 a1
          obtain ⟨L, hL, B⟩ := B.out.letter
          have ne := Wd.some_ B.out
          obtain ⟨a0, a1⟩ := Wd.k2 (w := w) hL mem0
          refine wp_region_tame w L B.out (by kernel_rfl) (by kernel_rfl) ?_
          repeat (go_big_quiet_step (first
            | (go_at_call 22; exact Calls.tame (gapMid_any lo hi _ G1.out G2.out))
            | (go_at_call 24; exact Calls.tame ((gapHas_any lo hi _ _).mono (by first | rw [HM.out]; exact fun _ _ h => h | rw [HL.out]; exact fun _ _ h => h | rw [HH.out]; exact fun _ _ h => h)))))
          refine wpQuiet_nil (wd_all ?_)
          intro W1 B1
          rw [hL.out] at B1
          have B := hid B1
          clear a0 a1 ne hL B1
          obtain ⟨a0, a1⟩ := B.out.c2 mem0
          go_wp2_with fail
          refine (gapGrow_any lo hi y y _ G1.out G2.out FY.out FY.out).mono ?_
          rcases GP.out with ⟨e0, f1, f2, gl, gh, wi, wd, wd0⟩ | e0
          · rw [e0, gl, gh]
            have F1 := hid f1
            have F2 := hid f2
            have WI := hid wi
            have U := hid (show 0 ≤ hi - lo ∧ hi - lo + 2 * y ≤ 18446744073709551615 by obtain ⟨u1, u2⟩ := f1; obtain ⟨u3, u4⟩ := f2; omega)
            generalize hi - lo = d at *
            have WD := hid wd
            have WE := hid wd0
            clear e0 f1 f2 gl gh wi wd wd0
            generalize lo - y = lo2 at *
            generalize hi + y = hi2 at *
            rintro r w5 ⟨rfl, t⟩
            replace B := hid (B.out.below t)
            replace B := hid (B.out.add (.cells #[.int .i64 lo2, .int .i64 hi2] 23))
            clear t a0 a1
            go_wp2_with fail
            obtain ⟨L, hL, B⟩ := B.out.letter
            have ne := Wd.some_ B.out
            obtain ⟨a0, a1⟩ := Wd.k2 (w := w) hL mem1
            obtain ⟨b0, b1⟩ := Wd.k2 (w := w) hL mem0
            obtain ⟨u0, u1⟩ := U.out
            have v1 := wrap_u64_in (z := y) hy0 (by omega)
            have v2 := wrap_u64_in (z := 2 * y) (by omega) (by omega)
            have v3 := wrap_u64_in (z := d + 2 * y) (by omega) (by omega)
            refine wp_region_tame w L B.out (by kernel_rfl) (by kernel_rfl) ?_
            repeat (go_big_quiet_step (first
              | (go_at_call 25; exact Calls.tame ((gapWithin_any lo hi lo2 hi2 _).mono (by rw [WI.out]; exact fun _ _ h => h)))
              | (go_at_call 26; with_reducible exact Calls.tame ((gapWidth_any lo2 hi2 _ F1.out F2.out).mono (by rw [WD.out]; exact fun _ _ h => h)))
              | (go_at_call 26; with_reducible exact Calls.tame ((gapWidth_any lo hi _ G1.out G2.out).mono (by rw [WE.out]; exact fun _ _ h => h)))))
            refine wpQuiet_nil (wd_all ?_)
            intro W3 B3
            rw [hL.out] at B3
            have B := hid B3
            clear a0 a1 b0 b1 u0 u1 v1 v2 v3 ne hL B3
            go_wp2_with fail
            go_roundw
            case rel => exact ⟨k + 1, by omega, by go_num, by rw [HAS.out]; rfl, by rw [HSS.out]; rfl, by rw [HRS.out, HR.out]; simpa using hle, B.out.sub (fun _ h => by cases h)⟩
            case measure => simp [intOf]; omega
          · generalize grErr lo hi y y = ge at *
            generalize grLo lo hi y y = lo2
            generalize grHi lo hi y y = hi2
            have q : (ge == 0) = false := by rw [beq_eq_false_iff_ne]; intro q; rw [q] at e0; simp at e0
            have Q := hid q
            clear q e0
            rintro r w5 ⟨rfl, t⟩
            replace B := hid (B.out.below t)
            replace B := hid (B.out.add (.cells #[.int .i64 lo2, .int .i64 hi2] 23))
            clear t a0 a1
            go_wp2_with fail
            obtain ⟨L, hL, B⟩ := B.out.letter
            have ne := Wd.some_ B.out
            have q := Q.out
            refine wp_region_tame w L B.out (by kernel_rfl) (by kernel_rfl) ?_
            repeat (go_big_quiet_step (fail))
            refine wpQuiet_nil (wd_all ?_)
            intro W3 B3
            rw [hL.out] at B3
            have B := hid B3
            clear ne hL B3 q
            go_wp2_with fail
            go_roundw
            case rel => exact ⟨k + 1, by omega, by go_num, by rw [HAS.out]; rfl, by rw [HSS.out]; rfl, by rw [HRS.out, HR.out]; simpa using hle, B.out.sub (fun _ h => by cases h)⟩
            case measure => simp [intOf]; omega
        · go_wp2_with fail
          refine (gapRight_any lo hi _).mono ?_
          rw [decide_eq_true hle]
          rintro r w2 ⟨rfl, t⟩
          have B := hid ((HB.out.add (.cells #[.int .i64 lo, .int .i64 hi] 23)).below t)
          clear t d0 d1
          generalize wr.heap.size = p at *
          obtain ⟨a0, a1⟩ := B.out.c2 mem0
          go_wp2_with fail
          refine (gapHas_any lo hi x _).mono ?_
          rintro r w3 ⟨rfl, t⟩
          replace B := hid (B.out.below t)
          clear t a0 a1
          obtain ⟨a0, a1⟩ := B.out.c2 mem0
          go_wp2_with fail
          refine (gapHas_any lo hi x _).mono ?_
          rintro r w3 ⟨rfl, t⟩
          replace B := hid (B.out.below t)
          clear t a0 a1
          obtain ⟨a0, a1⟩ := B.out.c2 mem0
          go_wp2_with fail
          clear a0 a1
          obtain ⟨L, hL, B⟩ := B.out.letter
          have ne := Wd.some_ B.out
          obtain ⟨a0, a1⟩ := Wd.k2 (w := w) hL mem0
          refine wp_region_tame w L B.out (by kernel_rfl) (by kernel_rfl) ?_
          repeat (go_big_quiet_step (first
            | (go_at_call 22; exact Calls.tame (gapMid_any lo hi _ G1.out G2.out))
            | (go_at_call 24; exact Calls.tame ((gapHas_any lo hi _ _).mono (by first | rw [HM.out]; exact fun _ _ h => h | rw [HL.out]; exact fun _ _ h => h | rw [HH.out]; exact fun _ _ h => h)))))
          refine wpQuiet_nil (wd_all ?_)
          intro W1 B1
          rw [hL.out] at B1
          have B := hid B1
          clear a0 a1 ne hL B1
          obtain ⟨a0, a1⟩ := B.out.c2 mem0
          go_wp2_with fail
          refine (gapGrow_any lo hi y y _ G1.out G2.out FY.out FY.out).mono ?_
          rcases GP.out with ⟨e0, f1, f2, gl, gh, wi, wd, wd0⟩ | e0
          · rw [e0, gl, gh]
            have F1 := hid f1
            have F2 := hid f2
            have WI := hid wi
            have U := hid (show 0 ≤ hi - lo ∧ hi - lo + 2 * y ≤ 18446744073709551615 by obtain ⟨u1, u2⟩ := f1; obtain ⟨u3, u4⟩ := f2; omega)
            generalize hi - lo = d at *
            have WD := hid wd
            have WE := hid wd0
            clear e0 f1 f2 gl gh wi wd wd0
            generalize lo - y = lo2 at *
            generalize hi + y = hi2 at *
            rintro r w5 ⟨rfl, t⟩
            replace B := hid (B.out.below t)
            replace B := hid (B.out.add (.cells #[.int .i64 lo2, .int .i64 hi2] 23))
            clear t a0 a1
            go_wp2_with fail
            obtain ⟨L, hL, B⟩ := B.out.letter
            have ne := Wd.some_ B.out
            obtain ⟨a0, a1⟩ := Wd.k2 (w := w) hL mem1
            obtain ⟨b0, b1⟩ := Wd.k2 (w := w) hL mem0
            obtain ⟨u0, u1⟩ := U.out
            have v1 := wrap_u64_in (z := y) hy0 (by omega)
            have v2 := wrap_u64_in (z := 2 * y) (by omega) (by omega)
            have v3 := wrap_u64_in (z := d + 2 * y) (by omega) (by omega)
            refine wp_region_tame w L B.out (by kernel_rfl) (by kernel_rfl) ?_
            repeat (go_big_quiet_step (first
              | (go_at_call 25; exact Calls.tame ((gapWithin_any lo hi lo2 hi2 _).mono (by rw [WI.out]; exact fun _ _ h => h)))
              | (go_at_call 26; with_reducible exact Calls.tame ((gapWidth_any lo2 hi2 _ F1.out F2.out).mono (by rw [WD.out]; exact fun _ _ h => h)))
              | (go_at_call 26; with_reducible exact Calls.tame ((gapWidth_any lo hi _ G1.out G2.out).mono (by rw [WE.out]; exact fun _ _ h => h)))))
            refine wpQuiet_nil (wd_all ?_)
            intro W3 B3
            rw [hL.out] at B3
            have B := hid B3
            clear a0 a1 b0 b1 u0 u1 v1 v2 v3 ne hL B3
            go_wp2_with fail
            go_roundw
            case rel => exact ⟨k + 1, by omega, by go_num, by rw [HAS.out]; rfl, by rw [HSS.out]; rfl, by rw [HRS.out, HR.out]; simpa using hle, B.out.sub (fun _ h => by cases h)⟩
            case measure => simp [intOf]; omega
          · generalize grErr lo hi y y = ge at *
            generalize grLo lo hi y y = lo2
            generalize grHi lo hi y y = hi2
            have q : (ge == 0) = false := by rw [beq_eq_false_iff_ne]; intro q; rw [q] at e0; simp at e0
            have Q := hid q
            clear q e0
            rintro r w5 ⟨rfl, t⟩
            replace B := hid (B.out.below t)
            replace B := hid (B.out.add (.cells #[.int .i64 lo2, .int .i64 hi2] 23))
            clear t a0 a1
            go_wp2_with fail
            obtain ⟨L, hL, B⟩ := B.out.letter
            have ne := Wd.some_ B.out
            have q := Q.out
            refine wp_region_tame w L B.out (by kernel_rfl) (by kernel_rfl) ?_
            repeat (go_big_quiet_step (fail))
            refine wpQuiet_nil (wd_all ?_)
            intro W3 B3
            rw [hL.out] at B3
            have B := hid B3
            clear ne hL B3 q
            go_wp2_with fail
            go_roundw
            case rel => exact ⟨k + 1, by omega, by go_num, by rw [HAS.out]; rfl, by rw [HSS.out]; rfl, by rw [HRS.out, HR.out]; simpa using hle, B.out.sub (fun _ h => by cases h)⟩
            case measure => simp [intOf]; omega
        · go_wp2_with fail
          refine (gapRight_any lo hi _).mono ?_
          rw [decide_eq_true hle]
          rintro r w2 ⟨rfl, t⟩
          have B := hid ((HB.out.add (.cells #[.int .i64 lo, .int .i64 hi] 23)).below t)
          clear t d0 d1
          generalize wr.heap.size = p at *
          obtain ⟨a0, a1⟩ := B.out.c2 mem0
          go_wp2_with fail
          refine (gapHas_any lo hi x _).mono ?_
          rintro r w3 ⟨rfl, t⟩
          replace B := hid (B.out.below t)
          clear t a0 a1
          obtain ⟨a0, a1⟩ := B.out.c2 mem0
          go_wp2_with fail
          clear a0 a1
          obtain ⟨L, hL, B⟩ := B.out.letter
          have ne := Wd.some_ B.out
          obtain ⟨a0, a1⟩ := Wd.k2 (w := w) hL mem0
          refine wp_region_tame w L B.out (by kernel_rfl) (by kernel_rfl) ?_
          repeat (go_big_quiet_step (first
            | (go_at_call 22; exact Calls.tame (gapMid_any lo hi _ G1.out G2.out))
            | (go_at_call 24; exact Calls.tame ((gapHas_any lo hi _ _).mono (by first | rw [HM.out]; exact fun _ _ h => h | rw [HL.out]; exact fun _ _ h => h | rw [HH.out]; exact fun _ _ h => h)))))
          refine wpQuiet_nil (wd_all ?_)
          intro W1 B1
          rw [hL.out] at B1
          have B := hid B1
          clear a0 a1 ne hL B1
          obtain ⟨a0, a1⟩ := B.out.c2 mem0
          go_wp2_with fail
          refine (gapGrow_any lo hi y y _ G1.out G2.out FY.out FY.out).mono ?_
          rcases GP.out with ⟨e0, f1, f2, gl, gh, wi, wd, wd0⟩ | e0
          · rw [e0, gl, gh]
            have F1 := hid f1
            have F2 := hid f2
            have WI := hid wi
            have U := hid (show 0 ≤ hi - lo ∧ hi - lo + 2 * y ≤ 18446744073709551615 by obtain ⟨u1, u2⟩ := f1; obtain ⟨u3, u4⟩ := f2; omega)
            generalize hi - lo = d at *
            have WD := hid wd
            have WE := hid wd0
            clear e0 f1 f2 gl gh wi wd wd0
            generalize lo - y = lo2 at *
            generalize hi + y = hi2 at *
            rintro r w5 ⟨rfl, t⟩
            replace B := hid (B.out.below t)
            replace B := hid (B.out.add (.cells #[.int .i64 lo2, .int .i64 hi2] 23))
            clear t a0 a1
            go_wp2_with fail
            obtain ⟨L, hL, B⟩ := B.out.letter
            have ne := Wd.some_ B.out
            obtain ⟨a0, a1⟩ := Wd.k2 (w := w) hL mem1
            obtain ⟨b0, b1⟩ := Wd.k2 (w := w) hL mem0
            obtain ⟨u0, u1⟩ := U.out
            have v1 := wrap_u64_in (z := y) hy0 (by omega)
            have v2 := wrap_u64_in (z := 2 * y) (by omega) (by omega)
            have v3 := wrap_u64_in (z := d + 2 * y) (by omega) (by omega)
            refine wp_region_tame w L B.out (by kernel_rfl) (by kernel_rfl) ?_
            repeat (go_big_quiet_step (first
              | (go_at_call 25; exact Calls.tame ((gapWithin_any lo hi lo2 hi2 _).mono (by rw [WI.out]; exact fun _ _ h => h)))
              | (go_at_call 26; with_reducible exact Calls.tame ((gapWidth_any lo2 hi2 _ F1.out F2.out).mono (by rw [WD.out]; exact fun _ _ h => h)))
              | (go_at_call 26; with_reducible exact Calls.tame ((gapWidth_any lo hi _ G1.out G2.out).mono (by rw [WE.out]; exact fun _ _ h => h)))))
            refine wpQuiet_nil (wd_all ?_)
            intro W3 B3
            rw [hL.out] at B3
            have B := hid B3
            clear a0 a1 b0 b1 u0 u1 v1 v2 v3 ne hL B3
            go_wp2_with fail
            go_roundw
            case rel => exact ⟨k + 1, by omega, by go_num, by rw [HAS.out]; rfl, by rw [HSS.out]; rfl, by rw [HRS.out, HR.out]; simpa using hle, B.out.sub (fun _ h => by cases h)⟩
            case measure => simp [intOf]; omega
          · generalize grErr lo hi y y = ge at *
            generalize grLo lo hi y y = lo2
            generalize grHi lo hi y y = hi2
            have q : (ge == 0) = false := by rw [beq_eq_false_iff_ne]; intro q; rw [q] at e0; simp at e0
            have Q := hid q
            clear q e0
            rintro r w5 ⟨rfl, t⟩
            replace B := hid (B.out.below t)
            replace B := hid (B.out.add (.cells #[.int .i64 lo2, .int .i64 hi2] 23))
            clear t a0 a1
            go_wp2_with fail
            obtain ⟨L, hL, B⟩ := B.out.letter
            have ne := Wd.some_ B.out
            have q := Q.out
            refine wp_region_tame w L B.out (by kernel_rfl) (by kernel_rfl) ?_
            repeat (go_big_quiet_step (fail))
            refine wpQuiet_nil (wd_all ?_)
            intro W3 B3
            rw [hL.out] at B3
            have B := hid B3
            clear ne hL B3 q
            go_wp2_with fail
            go_roundw
            case rel => exact ⟨k + 1, by omega, by go_num, by rw [HAS.out]; rfl, by rw [HSS.out]; rfl, by rw [HRS.out, HR.out]; simpa using hle, B.out.sub (fun _ h => by cases h)⟩
            case measure => simp [intOf]; omega
      · go_wp2_with fail
        refine (gapRight_any lo hi _).mono ?_
        rw [decide_eq_false (Int.not_le.2 hle)]
        rintro r w2 ⟨rfl, t⟩
        have B := hid ((HB.out.add (.cells #[.int .i64 lo, .int .i64 hi] 23)).below t)
        clear t d0 d1
        go_wp2_with fail
        go_ret
        exact ⟨rfl, B.out.bel⟩
    · have hkn : k = n := by omega
      subst hkn
      have ht : gs.take k = gs := by rw [List.take_of_length_le (by have := HN.out; omega)]
      rw [ht] at HR
      have HS := hid (show anyHas (gs.take k) x = anyHas gs x by rw [ht])
      have HE := hid (show allHas (gs.take k) x = allHas gs x by rw [ht])
      generalize anyHas (gs.take k) x = S at *
      generalize allHas (gs.take k) x = E at *
      clear ht
      have MP := hid (mt_points HR.out HX.out)
      have HU := hid (fun g (hg : g ∈ gs) => hu_points HR.out hg)
      have HY := hid (fun hs => hu_any (x := x) HR.out hs)
      go_wp2_with fail
      refine (gapMeet_any _ gs _ (H.out.below HB.out.bel)).mono ?_
      generalize mtLo gs = ml at *
      generalize mtHi gs = mh at *
      generalize mtErr gs = me at *
      rintro r w3 ⟨rfl, t⟩
      have B := hid ((HB.out.below t).add (.cells #[.int .i64 ml, .int .i64 mh] 23))
      clear t
      go_wp2_with fail
      refine (gapHull_any _ gs _ (H.out.below B.out.bel)).mono ?_
      generalize huLo gs = hl at *
      generalize huHi gs = hh at *
      generalize huErr gs = he at *
      rintro r w4 ⟨rfl, t⟩
      replace B := hid ((B.out.below t).add (.cells #[.int .i64 hl, .int .i64 hh] 23))
      clear t
      generalize w3.heap.size = p3 at *
      go_upto_region 22 with fail
      generalize w4.heap.size = p4 at *
      refine wp_blks w _ B.out ?_
      clear B
      intro W5 B5
      have B := hid B5
      clear B5
      go_cut [126] (fun v wr => v = .bool false ∧ Blks w wr [(p4, .cells #[.int .i64 hl, .int .i64 hh] 23), (p3, .cells #[.int .i64 ml, .int .i64 mh] 23)])
      case first =>
        obtain ⟨a0, a1⟩ := B.out.c2 mem1
        have HM := hid (show (me = 0 ∧ hasOf ml mh x = E) ∨ (me = 13 ∧ E = false) by rcases MP.out with ⟨e, q, -⟩ | ⟨e, q⟩; exact .inl ⟨e, q.trans HE.out.symm⟩; exact .inr ⟨e, HE.out.trans q⟩)
        have HZ := hid (show S = true → he = 0 ∧ hasOf hl hh x = true by intro q; exact HY.out (HS.out.symm.trans q))
        clear MP HU HY HE HS HB H HF
        rcases HM.out with ⟨rfl, q⟩ | ⟨rfl, rfl⟩
        · have Q := hid q
          clear q HM
          cases E <;> cases S
          · clear HZ
            go_wp2_with fail
            refine (gapHas_any ml mh x _).mono ?_
            rw [Q.out]
            rintro r w6 ⟨rfl, t⟩
            replace B := hid (B.out.below t)
            clear t a0 a1
            obtain ⟨a0, a1⟩ := B.out.c2 mem0
            go_wp2_with fail
            go_meet
            exact ⟨rfl, B.out⟩
          · obtain ⟨rfl, z⟩ := HZ.out rfl
            have Z := hid z
            clear z HZ
            go_wp2_with fail
            refine (gapHas_any ml mh x _).mono ?_
            rw [Q.out]
            rintro r w6 ⟨rfl, t⟩
            replace B := hid (B.out.below t)
            clear t a0 a1
            obtain ⟨a0, a1⟩ := B.out.c2 mem0
            go_wp2_with fail
            refine (gapHas_any hl hh x _).mono ?_
            rw [Z.out]
            rintro r w7 ⟨rfl, t⟩
            replace B := hid (B.out.below t)
            clear t a0 a1
            go_wp2_with fail
            go_meet
            exact ⟨rfl, B.out⟩
          · clear HZ
            go_wp2_with fail
            refine (gapHas_any ml mh x _).mono ?_
            rw [Q.out]
            rintro r w6 ⟨rfl, t⟩
            replace B := hid (B.out.below t)
            clear t a0 a1
            obtain ⟨a0, a1⟩ := B.out.c2 mem0
            go_wp2_with fail
            go_meet
            exact ⟨rfl, B.out⟩
          · obtain ⟨rfl, z⟩ := HZ.out rfl
            have Z := hid z
            clear z HZ
            go_wp2_with fail
            refine (gapHas_any ml mh x _).mono ?_
            rw [Q.out]
            rintro r w6 ⟨rfl, t⟩
            replace B := hid (B.out.below t)
            clear t a0 a1
            obtain ⟨a0, a1⟩ := B.out.c2 mem0
            go_wp2_with fail
            refine (gapHas_any hl hh x _).mono ?_
            rw [Z.out]
            rintro r w7 ⟨rfl, t⟩
            replace B := hid (B.out.below t)
            clear t a0 a1
            go_wp2_with fail
            go_meet
            exact ⟨rfl, B.out⟩
        · clear HM a0 a1
          obtain ⟨a0, a1⟩ := B.out.c2 mem0
          cases S
          · clear HZ
            go_wp2_with fail
            go_meet
            exact ⟨rfl, B.out⟩
          · obtain ⟨rfl, z⟩ := HZ.out rfl
            have Z := hid z
            clear z HZ
            go_wp2_with fail
            refine (gapHas_any hl hh x _).mono ?_
            rw [Z.out]
            rintro r w7 ⟨rfl, t⟩
            replace B := hid (B.out.below t)
            clear t a0 a1
            go_wp2_with fail
            go_meet
            exact ⟨rfl, B.out⟩
      case rest =>
        obtain ⟨rfl, B6⟩ := hcut
        have B0 := hid B6
        have MM := hid (show (me = 0 ∧ ∀ g ∈ gs, withinOf ml mh g.1 g.2 = true) ∨ me = 13 by rcases MP.out with ⟨e, -, q⟩ | ⟨e, -⟩; exact .inl ⟨e, q⟩; exact .inr e)
        clear B B6 MP HY HE HS HB HR
        rcases MM.out with ⟨rfl, wn⟩ | rfl
        · have WN := hid wn
          clear wn
          clear MM
          go_wp2_with fail
          go_loopw [17] (fun i wr => ∃ j : Nat, j ≤ k ∧ i = .int .i64 j ∧ Blks w wr [(p4, .cells #[.int .i64 hl, .int .i64 hh] 23), (p3, .cells #[.int .i64 ml, .int .i64 mh] 23)]) (fun i _ => k - (intOf i).toNat)
          case atStart => exact ⟨0, Nat.zero_le _, rfl, B0.out⟩
          case round =>
            obtain ⟨j, hj, rfl, hB⟩ := hrel
            have B := hid hB
            clear hB B0
            by_cases hlt : j < k
            · have hkg : j < gs.length := by have := HN.out; omega
              obtain ⟨b, o, hA, d0, d1⟩ := H.out.at_ hkg
              have W1 := hid (HU.out _ (List.getElem_mem hkg)).2.1
              have W2 := hid (WN.out _ (List.getElem_mem hkg))
              generalize gs[j] = g at *
              obtain ⟨lo, hi⟩ := g
              subst hA
              have i0 : (0 : Int) ≤ (j : Int) := by omega
              have i1 : (j : Int) < (k : Int) := by omega
              clear hkg
              go_wp2_with fail
              obtain ⟨L, hL, B⟩ := B.out.letter
              have ne := Wd.some_ B.out
              obtain ⟨a0, a1⟩ := Wd.k2 (w := w) hL mem0
              obtain ⟨b0, b1⟩ := Wd.k2 (w := w) hL mem1
              have x0 := Wd.arg (l := L) d0
              have x1 := Wd.arg (l := L) d1
              clear d0 d1
              refine wp_region_tame w L B.out (by kernel_rfl) (by kernel_rfl) ?_
              repeat (go_big_quiet_step ((go_at_call 25; exact Calls.tame ((gapWithin_any _ _ _ _ _).mono (by first | rw [W1.out]; exact fun _ _ h => h | rw [W2.out]; exact fun _ _ h => h)))))
              refine wpQuiet_nil (wd_all ?_)
              intro W7 B7
              rw [hL.out] at B7
              have B := hid B7
              clear a0 a1 b0 b1 x0 x1 ne hL B7
              go_wp2_with fail
              go_roundw
              case rel => exact ⟨j + 1, by omega, by go_num, B.out⟩
              case measure => simp [intOf]; omega
            · go_wp2_with fail
              go_ret
              exact ⟨rfl, B.out.bel⟩
        · skip
          clear MM
          go_wp2_with fail
          go_loopw [17] (fun i wr => ∃ j : Nat, j ≤ k ∧ i = .int .i64 j ∧ Blks w wr [(p4, .cells #[.int .i64 hl, .int .i64 hh] 23), (p3, .cells #[.int .i64 ml, .int .i64 mh] 23)]) (fun i _ => k - (intOf i).toNat)
          case atStart => exact ⟨0, Nat.zero_le _, rfl, B0.out⟩
          case round =>
            obtain ⟨j, hj, rfl, hB⟩ := hrel
            have B := hid hB
            clear hB B0
            by_cases hlt : j < k
            · have hkg : j < gs.length := by have := HN.out; omega
              obtain ⟨b, o, hA, d0, d1⟩ := H.out.at_ hkg
              have W1 := hid (HU.out _ (List.getElem_mem hkg)).2.1
              generalize gs[j] = g at *
              obtain ⟨lo, hi⟩ := g
              subst hA
              have i0 : (0 : Int) ≤ (j : Int) := by omega
              have i1 : (j : Int) < (k : Int) := by omega
              clear hkg
              go_wp2_with fail
              obtain ⟨L, hL, B⟩ := B.out.letter
              have ne := Wd.some_ B.out
              obtain ⟨a0, a1⟩ := Wd.k2 (w := w) hL mem0
              obtain ⟨b0, b1⟩ := Wd.k2 (w := w) hL mem1
              have x0 := Wd.arg (l := L) d0
              have x1 := Wd.arg (l := L) d1
              clear d0 d1
              refine wp_region_tame w L B.out (by kernel_rfl) (by kernel_rfl) ?_
              repeat (go_big_quiet_step ((go_at_call 25; exact Calls.tame ((gapWithin_any _ _ _ _ _).mono (by rw [W1.out]; exact fun _ _ h => h)))))
              refine wpQuiet_nil (wd_all ?_)
              intro W7 B7
              rw [hL.out] at B7
              have B := hid B7
              clear a0 a1 b0 b1 x0 x1 ne hL B7
              go_wp2_with fail
              go_roundw
              case rel => exact ⟨j + 1, by omega, by go_num, B.out⟩
              case measure => simp [intOf]; omega
            · go_wp2_with fail
              go_ret
              exact ⟨rfl, B.out.bel⟩
end Go.Proofs.Ytjhekggeofalfaa
