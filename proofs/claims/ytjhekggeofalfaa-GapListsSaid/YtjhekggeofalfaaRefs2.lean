/- Contract of noonmarkref03.Hull. -/
import Derived.Test.YtjhekggeofalfaaRefs
namespace Go.Proofs.Ytjhekggeofalfaa
open Go.RowKit

theorem hull_grows (gs : List G2) : ∀ s : G2, s.1 ≤ s.2 → (gs.foldl hull2 s).1 ≤ (gs.foldl hull2 s).2 := by
  induction gs with
  | nil => intro s h; exact h
  | cons g t ih => intro s h; exact ih (hull2 s g) (by unfold hull2; simp only; omega)
theorem hull_le (gs : List G2) (s : G2) (h : gs ≠ []) (hr : rightG gs = true) : (gs.foldl hull2 s).1 ≤ (gs.foldl hull2 s).2 := by
  match gs, h with
  | g :: t, _ =>
    have hg : g.1 ≤ g.2 := by
      unfold rightG at hr; rw [List.all_cons, Bool.and_eq_true, decide_eq_true_eq] at hr; exact hr.1
    exact hull_grows t (hull2 s g) (by unfold hull2; simp only; omega)
theorem hull_one {g : G2} (h1 : Fits g.1) (h2 : Fits g.2) : [g].foldl hull2 hullS = g := by
  obtain ⟨x, y⟩ := g
  obtain ⟨a1, a2⟩ := h1
  obtain ⟨b1, b2⟩ := h2
  simp only at a1 a2 b1 b2
  show hull2 hullS (x, y) = (x, y)
  unfold hull2 hullS
  simp only [Prod.mk.injEq]
  omega
theorem huLo_no' {gs : List G2} (h : huErr gs ≠ 0) : 0 = huLo gs := by rw [← huLo_eq, foldLo, huErr_eq, if_neg h]
theorem huHi_no' {gs : List G2} (h : huErr gs ≠ 0) : 0 = huHi gs := by rw [← huHi_eq, foldHi, huErr_eq, if_neg h]

set_option maxRecDepth 20000 in
set_option maxHeartbeats 4000000 in
theorem refHull_any (v : Value) (gs : List G2) (w : World) (h : IsGaps w v gs) (hf : ∀ g ∈ gs, Fits g.1 ∧ Fits g.2) :
    Calls Try.prog 31 #[v] w fun e w' => e = .returned (.tuple #[gapV (huLo gs) (huHi gs), .int .i64 (huErr gs)]) ∧ Below w.heap.size w w' := by
  have H := hid h
  have HF := hid hf
  clear hf
  obtain ⟨A, c, hv, hlc, hm, -⟩ := h
  unfold maxLen at hm
  subst hv
  by_cases hr : rightG gs = true
  · by_cases h0 : gs = []
    · subst h0
      go_enter Try.func31, Try.ntmps31
      go_wp2_with fail
      refine (right_any _ [] _ (H.out.alloc _)).mono ?_
      rw [show rightG [] = true from rfl]
      rintro e w1 ⟨rfl, b1⟩
      have B2 := hid (((Blks.nil w).add (.cells #[.int .i64 0, .int .i64 0] 31)).below b1)
      clear b1
      obtain ⟨r0, r1⟩ := B2.out.c2 mem0
      have z0 := B2.out.fz mem0 0
      have z1 := B2.out.fz mem0 1
      go_wp2_with fail
      exact bodyPost_ret (v := .tuple #[gapV 0 0, .int .i64 13]) (by simp [results, Try.results31, go_sem, r0, r1]) rfl ⟨rfl, below_set2 B2.out.bel (Nat.le_refl _) _ _⟩
    have HR := hid hr
    have HLE := hid (hull_le gs hullS h0 hr)
    have hn0 : 0 < gs.length := List.length_pos_iff.2 h0
    clear hr h0
    obtain ⟨b, o, hA, d0, d1⟩ := H.out.at_ hn0
    have F0 := HF.out _ (List.getElem_mem hn0)
    have T1 : gs.take 1 = [gs[0]] := by rw [List.take_succ_eq_append_getElem hn0]; rfl
    have HS1 := hid (show (gs.take 1).foldl hull2 hullS = gs[0] by rw [T1, hull_one F0.1 F0.2])
    clear F0 T1
    generalize gs[0] = g0 at *
    obtain ⟨x0, y0⟩ := g0
    have DD := hid (fun W' (hb : Below w.heap.size w W') => show W'.cell? ⟨b, o + 0 * 2, none⟩ = some (.int .i64 x0) ∧ W'.cell? ⟨b, o + 0 * 2 + 1, none⟩ = some (.int .i64 y0) from
      ⟨(hb.cell (blk_lt d0)).trans d0, (hb.cell (blk_lt d1)).trans d1⟩)
    subst hA
    clear d0 d1
    generalize hn : gs.length = n at *
    have HN := hid hn
    clear hn
    rw [Nat.zero_mul, Nat.add_zero] at DD
    have hn1 : ((n : Int) == 0) = false := by rw [beq_eq_false_iff_ne]; omega
    go_enter Try.func31, Try.ntmps31
    go_wp2_with fail
    refine (right_any _ gs _ (H.out.alloc _)).mono ?_
    rw [HR.out]
    rintro e w1 ⟨rfl, b1⟩
    have B0 := hid (((Blks.nil w).add (.cells #[.int .i64 0, .int .i64 0] 31)).below b1)
    clear b1
    have HB0 := hid (B0.out.add (.cells #[.int .i64 x0, .int .i64 y0] 31))
    have HNE : w.heap.size < w1.heap.size := B0.out.lt mem0
    obtain ⟨d0, d1⟩ := DD.out _ B0.out.bel
    generalize hp1 : w1.heap.size = p1 at *
    go_wp2_with fail
    clear d0 d1
    go_loopw [5] (fun i wr => ∃ k : Nat, k ≤ n ∧ 1 ≤ k ∧ i = .int .i64 k ∧
        Blks w wr [(p1, .cells #[.int .i64 ((gs.take k).foldl hull2 hullS).1, .int .i64 ((gs.take k).foldl hull2 hullS).2] 31), (w.heap.size, .cells #[.int .i64 0, .int .i64 0] 31)])
      (fun i _ => n - (intOf i).toNat)
    case atStart => exact ⟨1, by omega, Nat.le_refl _, rfl, by rw [HS1.out]; exact HB0.out⟩
    case round =>
      obtain ⟨k, hk, hk1, rfl, hB⟩ := hrel
      generalize ha : (gs.take k).foldl hull2 hullS = acc at *
      have HAC := hid ha
      obtain ⟨p, q⟩ := acc
      have HB := hid hB
      clear hB ha
      obtain ⟨a0, a1⟩ := HB.out.c2 mem0
      have f0 := HB.out.fz mem0 0
      have f1 := HB.out.fz mem0 1
      by_cases hlt : k < n
      · have hkg : k < gs.length := by have := HN.out; omega
        obtain ⟨b', o', hA, d0, d1⟩ := H.out.at_ hkg
        injection hA with hA
        injection hA with hA1 hA2 hA3
        subst hA1 hA2
        have HSN := hid (fold_snoc hull2 hullS gs k hkg)
        generalize gs[k] = g at *
        obtain ⟨x, y⟩ := g
        have DE := hid (fun W' (hb : Below w.heap.size w W') => show W'.cell? ⟨b, o + k * 2, none⟩ = some (.int .i64 x) ∧ W'.cell? ⟨b, o + k * 2 + 1, none⟩ = some (.int .i64 y) from
          ⟨(hb.cell (blk_lt d0)).trans d0, (hb.cell (blk_lt d1)).trans d1⟩)
        clear hkg d0 d1 DD
        have DD := DE
        obtain ⟨d0, d1⟩ := DD.out _ HB.out.bel
        have hne : ∀ r ∈ [(w.heap.size, Obj.cells #[.int .i64 0, .int .i64 0] 31)], r.1 ≠ p1 := by
          intro r hr; rw [List.mem_singleton] at hr; subst hr; simp only; omega
        have NE := hid hne
        clear hne
        by_cases c1 : x < p <;> by_cases c2 : q < y
        all_goals
          have C := hid (show hull2 (p, q) (x, y) = (if x < p then x else p, if q < y then y else q) by
            unfold hull2; simp only [Prod.mk.injEq]; constructor <;> split <;> omega)
          first | rw [if_pos c1, if_pos c2] at C | rw [if_pos c1, if_neg c2] at C | rw [if_neg c1, if_pos c2] at C | rw [if_neg c1, if_neg c2] at C
          go_wp2_with fail
          go_still_tail 9, (by kernel_rfl)
          refine wpl_blks w _ HB.out.drew ?_
          intro W2 B2
          have B2 := hid B2
          clear a0 a1 f0 f1 d0 d1
          obtain ⟨a0, a1⟩ := B2.out.c2 mem0
          have f0 := B2.out.fz mem0 0
          go_wp2_with fail
          refine wp_blks w _ (B2.out.set_0 (by omega) NE.out _) ?_
          intro W3 B3
          have B3 := hid B3
          clear B2 f0 a0 a1
          obtain ⟨a0, a1⟩ := B3.out.c2 mem0
          obtain ⟨d0, d1⟩ := DD.out _ B3.out.bel
          go_still_tail 9, (by kernel_rfl)
          refine wpl_blks w _ B3.out.drew ?_
          intro W4 B4
          have B4 := hid B4
          clear a0 a1 d0 d1
          obtain ⟨a0, a1⟩ := B4.out.c2 mem0
          have f1 := B4.out.fz mem0 1
          go_wp2_with fail
          go_roundw
          case rel =>
            refine ⟨k + 1, by omega, by omega, by go_num, ?_⟩
            rw [HSN.out, HAC.out, C.out]
            exact B4.out.set_1 (by omega) NE.out _
          case measure => simp [intOf]; omega
      · have hkn : k = n := by omega
        subst hkn
        have ht : gs.take k = gs := by rw [List.take_of_length_le (by have := HN.out; omega)]
        rw [ht] at HAC
        have hle : p ≤ q := by have := HLE.out; rw [HAC.out] at this; exact this
        have E0 := hid (show huErr gs = 0 by rw [← huErr_eq, foldErr, if_pos HR.out, HAC.out, if_pos hle])
        obtain ⟨r0, r1⟩ := HB.out.c2 mem1
        have z0 := HB.out.fz mem1 0
        have z1 := HB.out.fz mem1 1
        go_wp2_with fail
        exact bodyPost_ret (v := .tuple #[gapV p q, .int .i64 0]) (by simp [results, Try.results31, go_sem, r0, r1]) rfl ⟨retge (by rw [← huLo_eq, foldLo, huErr_eq, E0.out, if_pos rfl, HAC.out]) (by rw [← huHi_eq, foldHi, huErr_eq, E0.out, if_pos rfl, HAC.out]) E0.out.symm, below_set2 HB.out.bel (Nat.le_refl _) _ _⟩
  · have E0 := hid (show huErr gs = 10 by rw [← huErr_eq, foldErr, if_neg hr])
    have HR := hid (show rightG gs = false by simpa using hr)
    clear hr
    go_enter Try.func31, Try.ntmps31
    go_wp2_with fail
    refine (right_any _ gs _ (H.out.alloc _)).mono ?_
    rw [HR.out]
    rintro e w1 ⟨rfl, b1⟩
    have B2 := hid (((Blks.nil w).add (.cells #[.int .i64 0, .int .i64 0] 31)).below b1)
    clear b1
    obtain ⟨r0, r1⟩ := B2.out.c2 mem0
    have z0 := B2.out.fz mem0 0
    have z1 := B2.out.fz mem0 1
    go_wp2_with fail
    exact bodyPost_ret (v := .tuple #[gapV 0 0, .int .i64 10]) (by simp [results, Try.results31, go_sem, r0, r1]) rfl ⟨retge (huLo_no' (by rw [E0.out]; decide)) (huHi_no' (by rw [E0.out]; decide)) E0.out.symm, below_set2 B2.out.bel (Nat.le_refl _) _ _⟩
end Go.Proofs.Ytjhekggeofalfaa
