/- noonmarklaw19.GridAnswers returns true at every input and writes nothing that was there. -/
import Derived.Test.YtjhekggeofalfaaGrid6
import Derived.Test.YtjhekggeofalfaaAlive19
import Derived.Deep.DeepCutAuto
namespace Go.Proofs.Ytjhekggeofalfaa
open Go.RowKit

theorem new_ways (wd p mo : Int) : (gOk wd p mo = true → nwOf wd p mo wd = wd ∧ nwOf wd p mo p = p ∧ nwOf wd p mo mo = mo ∧ neOf wd p mo = 0) ∧
    (gOk wd p mo = false → nwOf wd p mo wd = 0 ∧ nwOf wd p mo p = 0 ∧ nwOf wd p mo mo = 0 ∧ neOf wd p mo = 11) := by
  refine ⟨fun g => ?_, fun g => ?_⟩ <;> simp [nwOf, neOf, g]
theorem ms_ways (wd p mo lo hi : Int) : (gOk wd p mo = false ∧ msE wd p mo lo hi = 21 ∧ msA wd p mo lo hi = 0 ∧ msB wd p mo lo hi = 0 ∧ ceOf wd p mo lo hi = false) ∨
    (gOk wd p mo = true ∧ ¬ lo ≤ hi ∧ msE wd p mo lo hi = 10 ∧ msA wd p mo lo hi = 0 ∧ msB wd p mo lo hi = 0 ∧ ceOf wd p mo lo hi = false) ∨
    (gOk wd p mo = true ∧ lo ≤ hi ∧ msE wd p mo lo hi = 0 ∧ msA wd p mo lo hi = winOf wd p mo lo ∧ msB wd p mo lo hi = winOf wd p mo hi ∧ ceOf wd p mo lo hi = (winOf wd p mo lo == winOf wd p mo hi)) := by
  rcases hg : gOk wd p mo with _ | _
  · have e : msE wd p mo lo hi = 21 := by rw [msE, hg]; rfl
    exact .inl ⟨rfl, e, by simp [msA, e], by simp [msB, e], by simp [ceOf, e]⟩
  · by_cases h : lo ≤ hi
    · have e : msE wd p mo lo hi = 0 := by rw [msE, hg, if_pos rfl, if_pos h]
      have a : msA wd p mo lo hi = winOf wd p mo lo := by rw [msA, if_pos e]
      have b : msB wd p mo lo hi = winOf wd p mo hi := by rw [msB, if_pos e]
      exact .inr (.inr ⟨rfl, h, e, a, b, by rw [ceOf, e, a, b, Bool.eq_iff_iff]; simp⟩)
    · have e : msE wd p mo lo hi = 10 := by rw [msE, hg, if_pos rfl, if_neg h]
      exact .inr (.inl ⟨rfl, h, e, by simp [msA, e], by simp [msB, e], by simp [ceOf, e]⟩)

set_option maxRecDepth 100000 in
set_option maxHeartbeats 8000000 in
theorem gridAnswers_any (wd p mo t lo hi : Int) (w : World) (_ : Fits wd) (_ : Fits p) (_ : Fits mo) (h4 : Fits t) (h5 : Fits lo) (h6 : Fits hi) :
    Calls Try.prog 7 #[gridV wd p mo, .int .i64 t, gapV lo hi] w fun e w' => e = .returned (.bool true) ∧ Below w.heap.size w w' := by
  have HT := hid h4
  have H1 := hid h5
  have H2 := hid h6
  clear h4 h5 h6
  have B := hid (Blks.two w (.cells #[.int .i64 wd, .int .i64 p, .int .i64 mo] 53) (.cells #[.int .i64 lo, .int .i64 hi] 23))
  have N := hid (new_ways wd p mo)
  have MS := hid (ms_ways wd p mo lo hi)
  go_enter Try.func7, Try.ntmps7
  go_wp2_with fail
  refine (alive19_any _).mono ?_
  rintro e v1 ⟨rfl, x⟩
  replace B := hid (B.out.below x)
  clear x
  obtain ⟨a0, a1, a2⟩ := B.out.c3 mem1
  go_wp2_with fail
  refine (gridNew_any wd p mo _).mono ?_
  generalize nwOf wd p mo wd = n1 at *
  generalize nwOf wd p mo p = n2 at *
  generalize nwOf wd p mo mo = n3 at *
  generalize neOf wd p mo = ne at *
  rintro e v2 ⟨rfl, x⟩
  replace B := hid (B.out.below x)
  replace B := hid (B.out.add (.cells #[.int .i64 n1, .int .i64 n2, .int .i64 n3] 53))
  clear x
  clear a0 a1 a2
  obtain ⟨a0, a1, a2⟩ := B.out.c3 mem2
  go_wp2_with fail
  refine (lawOf19_any wd p mo _).mono ?_
  rintro e v3 ⟨rfl, x⟩
  replace B := hid (B.out.below x)
  clear x
  clear a0 a1 a2
  go_wp2_with fail
  refine (ref19Right_any wd p mo _).mono ?_
  generalize gOk wd p mo = ok at *
  rintro e v4 ⟨rfl, x⟩
  replace B := hid (B.out.below x)
  clear x
  go_upto_region 5 with fail
  generalize v2.heap.size = p7 at *
  go_cut [61] (fun v wr => v = .bool false ∧ Blks w wr [(p7, .cells #[.int .i64 n1, .int .i64 n2, .int .i64 n3] 53), (w.heap.size + 1, .cells #[.int .i64 lo, .int .i64 hi] 23), (w.heap.size, .cells #[.int .i64 wd, .int .i64 p, .int .i64 mo] 53)])
  case first =>
    cases ok
    · obtain ⟨rfl, rfl, rfl, rfl⟩ := N.out.2 rfl
      obtain ⟨a0, a1, a2⟩ := B.out.c3 mem0
      obtain ⟨b0, b1, b2⟩ := B.out.c3 mem2
      clear N MS
      go_wp2_with fail
      go_meet
      exact ⟨rfl, B.out⟩
    · obtain ⟨rfl, rfl, rfl, rfl⟩ := N.out.1 rfl
      obtain ⟨a0, a1, a2⟩ := B.out.c3 mem0
      obtain ⟨b0, b1, b2⟩ := B.out.c3 mem2
      clear N MS
      go_wp2_with fail
      go_meet
      exact ⟨rfl, B.out⟩
  case rest =>
    obtain ⟨rfl, hB⟩ := hcut
    replace B := hid hB
    clear hB N
    obtain ⟨a0, a1⟩ := B.out.c2 mem1
    obtain ⟨b0, b1, b2⟩ := B.out.c3 mem2
    go_upto_region 8 with fail
    replace B := hid (B.out.add (.cells #[.int .i64 lo, .int .i64 hi] 31))
    refine wp_blks w _ B.out ?_
    generalize wc.heap.size = p10 at *
    clear B
    clear a0 a1 b0 b1 b2
    intro w0 B
    replace B := hid B
    obtain ⟨b0, b1, b2⟩ := B.out.c3 mem3
    go_wp2_with fail
    refine (gridSpan_any wd p mo t _ HT.out).mono ?_
    generalize hsl : spLo wd p mo t = sl
    have Ssl := hid hsl
    clear hsl
    generalize hsh : spHi wd p mo t = sh
    have Ssh := hid hsh
    clear hsh
    generalize hse : spE wd p mo t = se
    have Sse := hid hse
    clear hse
    rintro e v5 ⟨rfl, x⟩
    replace B := hid (B.out.below x)
    replace B := hid (B.out.add (.cells #[.int .i64 sl, .int .i64 sh] 23))
    clear x
    clear b0 b1 b2
    obtain ⟨b0, b1, b2⟩ := B.out.c3 mem4
    go_wp2_with fail
    refine (lawOf19_any wd p mo _).mono ?_
    rintro e v6 ⟨rfl, x⟩
    replace B := hid (B.out.below x)
    clear x
    clear b0 b1 b2
    go_wp2_with fail
    refine (ref19Span_any wd p mo t _ HT.out).mono ?_
    rw [Ssl.out, Ssh.out, Sse.out]
    rintro e v7 ⟨rfl, x⟩
    replace B := hid (B.out.below x)
    replace B := hid (B.out.add (.cells #[.int .i64 sl, .int .i64 sh] 31))
    clear x
    obtain ⟨b0, b1, b2⟩ := B.out.c3 mem5
    obtain ⟨a0, a1⟩ := B.out.c2 mem4
    go_wp2_with fail
    refine (gridPick_any wd p mo lo hi _ H1.out H2.out).mono ?_
    generalize hpv : pkV wd p mo lo hi = pv
    have Spv := hid hpv
    generalize hpe : pkE wd p mo lo hi = pe
    have Spe := hid hpe
    clear hpv hpe
    rintro e v8 ⟨rfl, x⟩
    replace B := hid (B.out.below x)
    clear x
    clear b0 b1 b2 a0 a1
    go_wp2_with fail
    obtain ⟨L, hL, B⟩ := B.out.letter
    have ne0 := Wd.some_ B.out
    obtain ⟨a0, a1⟩ := Wd.k2 (w := w) hL mem2
    obtain ⟨b0, b1, b2⟩ := Wd.k3 (w := w) hL mem5
    refine wp_region_tame w L B.out (by kernel_rfl) (by kernel_rfl) ?_
    repeat (go_big_quiet_step (first
      | (go_at_call 35; exact Calls.tame (lawOf19_any wd p mo _))
      | (go_at_call 39; exact Calls.tame ((ref19Pick_any wd p mo lo hi _ H1.out H2.out).mono (by rw [Spv.out, Spe.out]; exact fun _ _ h => h)))))
    refine wpQuiet_nil (wd_all ?_)
    intro t9 hB
    rw [hL.out] at hB
    replace B := hid hB
    clear ne0 hL hB a0 a1 b0 b1 b2
    obtain ⟨b0, b1, b2⟩ := B.out.c3 mem5
    obtain ⟨a0, a1⟩ := B.out.c2 mem4
    go_wp2_with fail
    refine (gridMeets_any wd p mo lo hi _ H1.out H2.out).mono ?_
    generalize msA wd p mo lo hi = ma at *
    generalize msB wd p mo lo hi = mb at *
    generalize msE wd p mo lo hi = me at *
    generalize hce : ceOf wd p mo lo hi = ce at *
    have CE := hid hce
    clear hce
    rintro e v10 ⟨rfl, x⟩
    replace B := hid (B.out.below x)
    clear x
    clear b0 b1 b2 a0 a1
    go_wp2_with fail
    obtain ⟨L, hL, B⟩ := B.out.letter
    have ne0 := Wd.some_ B.out
    obtain ⟨a0, a1⟩ := Wd.k2 (w := w) hL mem1
    obtain ⟨c0, c1⟩ := Wd.k2 (w := w) hL mem0
    obtain ⟨b0, b1, b2⟩ := Wd.k3 (w := w) hL mem5
    refine wp_region_tame w L B.out (by kernel_rfl) (by kernel_rfl) ?_
    repeat (go_big_quiet_step (first
      | (go_at_call 41; exact Calls.tame (gridWindow_any wd p mo t _ HT.out))
      | (go_at_call 35; exact Calls.tame (lawOf19_any wd p mo _))
      | (go_at_call 42; exact Calls.tame (ref19Window_any wd p mo t _ HT.out))))
    refine wpQuiet_nil (wd_all ?_)
    intro t11 hB
    rw [hL.out] at hB
    replace B := hid hB
    clear ne0 hL hB a0 a1 c0 c1 b0 b1 b2
    rcases MS.out with ⟨rfl, rfl, rfl, rfl, rfl⟩ | ⟨rfl, hle, rfl, rfl, rfl, rfl⟩ | ⟨rfl, hle, rfl, rfl, rfl, rfl⟩
    · skip
      obtain ⟨b0, b1, b2⟩ := B.out.c3 mem5
      obtain ⟨a0, a1⟩ := B.out.c2 mem4
      go_wp2_with fail
      refine (gridCertain_any wd p mo lo hi _ H1.out H2.out).mono ?_
      rw [CE.out]
      rintro e v12 ⟨rfl, x⟩
      replace B := hid (B.out.below x)
      clear x
      clear b0 b1 b2 a0 a1
      go_wp2_with fail
      go_ret
      exact ⟨rfl, B.out.bel⟩
    · skip
      obtain ⟨a0, a1⟩ := B.out.c2 mem2
      go_wp2_with fail
      refine (refRight_any lo hi _).mono ?_
      rw [decide_eq_false (Int.not_le.2 hle)]
      clear hle
      rintro e v13 ⟨rfl, x⟩
      replace B := hid (B.out.below x)
      clear x
      clear a0 a1
      obtain ⟨b0, b1, b2⟩ := B.out.c3 mem5
      obtain ⟨a0, a1⟩ := B.out.c2 mem4
      go_wp2_with fail
      refine (gridCertain_any wd p mo lo hi _ H1.out H2.out).mono ?_
      rw [CE.out]
      rintro e v14 ⟨rfl, x⟩
      replace B := hid (B.out.below x)
      clear x
      clear b0 b1 b2 a0 a1
      go_wp2_with fail
      go_ret
      exact ⟨rfl, B.out.bel⟩
    · skip
      obtain ⟨a0, a1⟩ := B.out.c2 mem2
      go_wp2_with fail
      refine (refRight_any lo hi _).mono ?_
      rw [decide_eq_true hle]
      clear hle
      rintro e v15 ⟨rfl, x⟩
      replace B := hid (B.out.below x)
      clear x
      clear a0 a1
      go_wp2_with fail
      obtain ⟨L, hL, B⟩ := B.out.letter
      have ne0 := Wd.some_ B.out
      obtain ⟨a0, a1⟩ := Wd.k2 (w := w) hL mem4
      obtain ⟨b0, b1, b2⟩ := Wd.k3 (w := w) hL mem5
      refine wp_region_tame w L B.out (by kernel_rfl) (by kernel_rfl) ?_
      repeat (go_big_quiet_step (first
        | (go_at_call 35; exact Calls.tame (lawOf19_any wd p mo _))
        | (go_at_call 42; exact Calls.tame (ref19Window_any wd p mo lo _ H1.out))))
      refine wpQuiet_nil (wd_all ?_)
      intro t16 hB
      rw [hL.out] at hB
      replace B := hid hB
      clear ne0 hL hB a0 a1 b0 b1 b2
      go_upto_region 20 with fail
      obtain ⟨L, hL, B⟩ := B.out.letter
      have ne0 := Wd.some_ B.out
      obtain ⟨a0, a1⟩ := Wd.k2 (w := w) hL mem4
      obtain ⟨b0, b1, b2⟩ := Wd.k3 (w := w) hL mem5
      refine wp_region_tame w L B.out (by kernel_rfl) (by kernel_rfl) ?_
      repeat (go_big_quiet_step (first
        | (go_at_call 35; exact Calls.tame (lawOf19_any wd p mo _))
        | (go_at_call 42; exact Calls.tame (ref19Window_any wd p mo hi _ H2.out))))
      refine wpQuiet_nil (wd_all ?_)
      intro t17 hB
      rw [hL.out] at hB
      replace B := hid hB
      clear ne0 hL hB a0 a1 b0 b1 b2
      go_upto_region 21 with fail
      generalize winOf wd p mo lo = q1 at *
      generalize winOf wd p mo hi = q2 at *
      obtain ⟨b0, b1, b2⟩ := B.out.c3 mem5
      obtain ⟨a0, a1⟩ := B.out.c2 mem4
      go_wp2_with fail
      refine (gridCertain_any wd p mo lo hi _ H1.out H2.out).mono ?_
      rw [CE.out]
      rintro e v18 ⟨rfl, x⟩
      replace B := hid (B.out.below x)
      clear x
      clear b0 b1 b2 a0 a1
      go_wp2_with fail
      go_ret
      exact ⟨rfl, B.out.bel⟩
end Go.Proofs.Ytjhekggeofalfaa
