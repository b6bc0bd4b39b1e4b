/- Contracts of package grid and of noonmarkref19: Window, Meets, Certain, Pick, Span. -/
import Derived.Test.YtjhekggeofalfaaGrid
import Derived.Test.YtjhekggeofalfaaRatio
import Derived.Test.YtjhekggeofalfaaTame
namespace Go.Proofs.Ytjhekggeofalfaa
open Go.RowKit

def msE (wd p mo lo hi : Int) : Int := if gOk wd p mo = true then (if lo ≤ hi then 0 else 10) else 21
def msA (wd p mo lo hi : Int) : Int := if msE wd p mo lo hi = 0 then winOf wd p mo lo else 0
def msB (wd p mo lo hi : Int) : Int := if msE wd p mo lo hi = 0 then winOf wd p mo hi else 0
def ceOf (wd p mo lo hi : Int) : Bool := decide (msE wd p mo lo hi = 0) && decide (msA wd p mo lo hi = msB wd p mo lo hi)
def pkE (wd p mo lo hi : Int) : Int :=
  if msE wd p mo lo hi = 0 then (if mo < widthOf lo hi then 17 else if p = 0 ∨ p = 1 ∨ p = 2 then 0 else if msA wd p mo lo hi = msB wd p mo lo hi then 0 else 17) else msE wd p mo lo hi
def pkV (wd p mo lo hi : Int) : Int :=
  if pkE wd p mo lo hi = 0 then (if p = 0 then msA wd p mo lo hi else if p = 1 then msB wd p mo lo hi else if p = 2 then winOf wd p mo (midOf lo hi) else msA wd p mo lo hi) else 0
def spE (wd p mo n : Int) : Int := if gOk wd p mo = true then (if Fits (n * wd) ∧ Fits (n * wd + (wd - 1)) then 0 else 12) else 21
def spLo (wd p mo n : Int) : Int := if spE wd p mo n = 0 then n * wd else 0
def spHi (wd p mo n : Int) : Int := if spE wd p mo n = 0 then n * wd + (wd - 1) else 0

theorem ret3 {k l m : IntKind} {a b c d e f : Int} (h : a = b) (h' : c = d) (h'' : e = f) : Ending.returned (.tuple #[.int k a, .int l c, .int m e]) = .returned (.tuple #[.int k b, .int l d, .int m f]) := by rw [h, h', h'']
theorem mid_fits {lo hi : Int} (h1 : Fits lo) (h2 : Fits hi) : Fits (midOf lo hi) := by
  unfold midOf; split
  · exact sum_mid h1 h2
  · exact ⟨by decide, by decide⟩

set_option maxRecDepth 20000 in
set_option maxHeartbeats 4000000 in
theorem ref19Window_any (wd p mo t : Int) (w : World) (ht : Fits t) :
    Calls Try.prog 42 #[gridV wd p mo, .int .i64 t] w fun e w' => e = .returned (.int .i64 (winOf wd p mo t)) ∧ Below w.heap.size w w' := by
  have HT := hid ht
  have WF := hid (win_fits (wd := wd) (p := p) (mo := mo) ht)
  clear ht
  have HB0 := hid ((Blks.nil w).add (.cells #[.int .i64 wd, .int .i64 p, .int .i64 mo] 57))
  go_enter Try.func42, Try.ntmps42
  go_wp2_with fail
  refine (ref19Right_any wd p mo _).mono ?_
  rcases gOk_ways wd p mo with ⟨g, h1, h2, -⟩ | ⟨g, -⟩
  · rw [g]
    have W0 := hid (show winOf wd p mo t = t / wd by rw [winOf, if_pos g])
    have R := hid (show raV t 1 wd false = winOf wd p mo t by
      rw [raV, if_pos h1, divOf, if_neg (by decide), Int.mul_one, W0.out, sat_yes]
      have := WF.out; rw [W0.out] at this; exact this)
    clear g
    rintro e w1 ⟨rfl, b1⟩
    have B := hid (HB0.out.below b1)
    clear b1 HB0
    obtain ⟨a0, a1, a2⟩ := B.out.c3 mem0
    go_wp2_with fail
    refine (ref01Ratio_any t 1 wd false _ HT.out ⟨by decide, by decide⟩ ⟨by omega, by omega⟩).mono ?_
    rw [R.out]
    generalize raE t 1 wd false = re
    rintro e w2 ⟨rfl, b2⟩
    replace B := hid (B.out.below b2)
    clear b2 a0 a1 a2
    go_wp2_with fail
    go_ret
    exact ⟨rfl, B.out.bel⟩
  · rw [g]
    have W0 := hid (show winOf wd p mo t = 0 by rw [winOf, g]; rfl)
    clear g
    rintro e w1 ⟨rfl, b1⟩
    go_wp2_with fail
    go_ret
    exact ⟨ret1 W0.out.symm, (HB0.out.below b1).bel⟩

set_option maxRecDepth 20000 in
set_option maxHeartbeats 4000000 in
theorem gridMeets_any (wd p mo lo hi : Int) (w : World) (h1 : Fits lo) (h2 : Fits hi) :
    Calls Try.prog 40 #[gridV wd p mo, gapV lo hi] w fun e w' =>
      e = .returned (.tuple #[.int .i64 (msA wd p mo lo hi), .int .i64 (msB wd p mo lo hi), .int .i64 (msE wd p mo lo hi)]) ∧ Below w.heap.size w w' := by
  have H1 := hid h1
  have H2 := hid h2
  clear h1 h2
  have HB0 := hid (Blks.two w (.cells #[.int .i64 wd, .int .i64 p, .int .i64 mo] 53) (.cells #[.int .i64 lo, .int .i64 hi] 23))
  go_enter Try.func40, Try.ntmps40
  go_wp2_with fail
  refine (gridRight_any wd p mo _).mono ?_
  generalize hg : gOk wd p mo = ok
  have G := hid hg
  clear hg
  rintro e w1 ⟨rfl, b1⟩
  have B := hid (HB0.out.below b1)
  clear b1 HB0
  cases ok
  · have E := hid (show msE wd p mo lo hi = 21 by rw [msE, G.out]; rfl)
    go_wp2_with fail
    go_ret3
    exact ⟨ret3 (by rw [msA, E.out]; rfl) (by rw [msB, E.out]; rfl) E.out.symm, B.out.bel⟩
  · obtain ⟨a0, a1⟩ := B.out.c2 mem0
    go_wp2_with fail
    refine (gapRight_any lo hi _).mono ?_
    rintro e w2 ⟨rfl, b2⟩
    replace B := hid (B.out.below b2)
    clear b2 a0 a1
    by_cases hle : lo ≤ hi
    · rw [decide_eq_true hle]
      have E := hid (show msE wd p mo lo hi = 0 by rw [msE, G.out, if_pos rfl, if_pos hle])
      clear hle
      go_wp2_with fail
      obtain ⟨L, hL, B⟩ := B.out.letter
      have ne := Wd.some_ B.out
      obtain ⟨a0, a1⟩ := Wd.k2 (w := w) hL mem0
      obtain ⟨b0, b1, b2⟩ := Wd.k3 (w := w) hL mem1
      refine wp_region_tame w L B.out (by kernel_rfl) (by kernel_rfl) ?_
      repeat (go_big_quiet_step (first
        | (go_at_call 41; with_reducible exact Calls.tame (gridWindow_any wd p mo lo _ H1.out))
        | (go_at_call 41; with_reducible exact Calls.tame (gridWindow_any wd p mo hi _ H2.out))))
      refine wpQuiet_nil (wd_all ?_)
      intro W1 B1
      go_wp2_with fail
      go_ret3
      exact ⟨ret3 (by rw [msA, E.out, if_pos rfl]) (by rw [msB, E.out, if_pos rfl]) E.out.symm, B1.bel⟩
    · rw [decide_eq_false hle]
      have E := hid (show msE wd p mo lo hi = 10 by rw [msE, G.out, if_pos rfl, if_neg hle])
      clear hle
      go_wp2_with fail
      go_ret3
      exact ⟨ret3 (by rw [msA, E.out]; rfl) (by rw [msB, E.out]; rfl) E.out.symm, B.out.bel⟩

set_option maxRecDepth 20000 in
set_option maxHeartbeats 4000000 in
theorem gridCertain_any (wd p mo lo hi : Int) (w : World) (h1 : Fits lo) (h2 : Fits hi) :
    Calls Try.prog 43 #[gridV wd p mo, gapV lo hi] w fun e w' => e = .returned (.bool (ceOf wd p mo lo hi)) ∧ Below w.heap.size w w' := by
  have H1 := hid h1
  have H2 := hid h2
  clear h1 h2
  have HB0 := hid (Blks.two w (.cells #[.int .i64 wd, .int .i64 p, .int .i64 mo] 53) (.cells #[.int .i64 lo, .int .i64 hi] 23))
  go_enter Try.func43, Try.ntmps43
  go_wp2_with fail
  refine (gridMeets_any wd p mo lo hi _ H1.out H2.out).mono ?_
  have C := hid (show ceOf wd p mo lo hi = (decide (msE wd p mo lo hi = 0) && decide (msA wd p mo lo hi = msB wd p mo lo hi)) from rfl)
  generalize msA wd p mo lo hi = ma at *
  generalize msB wd p mo lo hi = mb at *
  generalize msE wd p mo lo hi = me at *
  rintro e w1 ⟨rfl, b1⟩
  have B := hid (HB0.out.below b1)
  clear b1 HB0
  by_cases q1 : me = 0
  · subst q1
    by_cases q2 : ma = mb
    · have q3 : (ma == mb) = true := beq_iff_eq.2 q2
      have q2 := hid q2
      go_wp2_with fail
      go_ret
      exact ⟨retb (by rw [C.out]; simp [q2.out]), B.out.bel⟩
    · have q3 : (ma == mb) = false := beq_eq_false_iff_ne.2 q2
      have q2 := hid q2
      go_wp2_with fail
      go_ret
      exact ⟨retb (by rw [C.out]; simp [q2.out]), B.out.bel⟩
  · have q3 : (me == 0) = false := beq_eq_false_iff_ne.2 q1
    have q1 := hid q1
    go_wp2_with fail
    go_ret
    exact ⟨retb (by rw [C.out]; simp [q1.out]), B.out.bel⟩
end Go.Proofs.Ytjhekggeofalfaa
