/- Contracts of noonmarkref03.right, Meet, Hull. -/
import Derived.Test.YtjhekggeofalfaaMeet
import Derived.StillTailTactics
namespace Go.Proofs.Ytjhekggeofalfaa
open Go.RowKit

set_option maxRecDepth 20000 in
set_option maxHeartbeats 4000000 in
theorem right_any (v : Value) (gs : List G2) (w : World) (h : IsGaps w v gs) :
    Calls Try.prog 64 #[v] w fun e w' => e = .returned (.bool (rightG gs)) ∧ Below w.heap.size w w' := by
  have H := hid h
  obtain ⟨A, c, rfl, hlc, hm, -⟩ := h
  unfold maxLen at hm
  generalize hn : gs.length = n at *
  have HN := hid hn
  clear hn
  go_enter Try.func64, Try.ntmps64
  go_wp2_with fail
  go_loopw [3] (fun i wr => ∃ k : Nat, k ≤ n ∧ i = .int .i64 k ∧ rightG (gs.take k) = true ∧ Below w.heap.size w wr)
    (fun i _ => n - (intOf i).toNat)
  case atStart => exact ⟨0, Nat.zero_le _, rfl, rfl, Below.refl _ _⟩
  case round =>
    obtain ⟨k, hk, rfl, hr, hB⟩ := hrel
    have HR := hid hr
    have HB := hid hB
    clear hr hB
    by_cases hlt : k < n
    · have hkg : k < gs.length := by have := HN.out; omega
      obtain ⟨b, o, hA, d0, d1⟩ := (H.out.below HB.out).at_ hkg
      have HRS := hid (rightG_snoc gs k hkg)
      have HNO := hid (rightG_no gs k hkg)
      generalize gs[k] = g at *
      obtain ⟨x, y⟩ := g
      subst hA
      clear hkg
      by_cases hle : x ≤ y
      · go_wp2_with fail
        refine (refRight_any x y _).mono ?_
        rintro e w2 ⟨rfl, b2⟩
        rw [decide_eq_true hle]
        have B2 := hid (HB.out.trans (b2.mono HB.out.size))
        clear b2 d0 d1
        go_wp2_with fail
        go_roundw
        case rel => exact ⟨k + 1, by omega, by go_num, by rw [HRS.out, HR.out]; simpa using hle, B2.out⟩
        case measure => simp [intOf]; omega
      · have HRG := hid (HNO.out hle)
        go_wp2_with fail
        refine (refRight_any x y _).mono ?_
        rintro e w2 ⟨rfl, b2⟩
        rw [decide_eq_false (by omega)]
        have B2 := hid (HB.out.trans (b2.mono HB.out.size))
        clear b2 d0 d1
        go_wp2_with fail
        go_ret
        exact ⟨retb HRG.out.symm, B2.out⟩
    · have hkn : k = n := by omega
      subst hkn
      have ht : gs.take k = gs := by rw [List.take_of_length_le (by have := HN.out; omega)]
      rw [ht] at HR
      go_wp2_with fail
      go_ret
      exact ⟨retb HR.out.symm, HB.out⟩
theorem mtLo_no' {gs : List G2} (h : mtErr gs ≠ 0) : 0 = mtLo gs := by rw [← mtLo_eq, foldLo, mtErr_eq, if_neg h]
theorem mtHi_no' {gs : List G2} (h : mtErr gs ≠ 0) : 0 = mtHi gs := by rw [← mtHi_eq, foldHi, mtErr_eq, if_neg h]
theorem blk_lt {w : World} {a : Addr} {v : Value} (h : w.cell? a = some v) : a.block < w.heap.size := by
  obtain ⟨b, o, s⟩ := a
  unfold World.cell? at h
  by_cases hb : b < w.heap.size
  · exact hb
  · simp [Array.getElem?_eq_none (by omega : w.heap.size ≤ b)] at h
theorem wpl_blks {P : Program} {ops : Array Oper} {Q} {rest : List Oper} {a : Act} {W : World} (w : World) (l : List (Nat × Obj)) (h : Blks w W l) (k : ∀ W, Blks w W l → wpList P ops Q rest a W) : wpList P ops Q rest a W := k W h
theorem Blks.set_0 {w W : World} {g : Nat} {x y : Value} {e : TypeId} {l : List (Nat × Obj)} (h : Blks w W ((g, Obj.cells #[x, y] e (0, 0)) :: l)) (hg : w.heap.size ≤ g) (hl : ∀ p ∈ l, p.1 ≠ g) (x' : Value) :
    Blks w (W.setCell ⟨g, 0, none⟩ x') ((g, Obj.cells #[x', y] e (0, 0)) :: l) := by
  refine ⟨h.1.setCell (p := ⟨g, 0, none⟩) hg x', fun p hp => ?_⟩
  rcases List.mem_cons.1 hp with rfl | hp
  · have h5 := h.at_ mem0
    simp [World.setCell, Array.getElem?_modify, h5]
  · rw [Below.heap_setCell _ _ _ _ (hl p hp)]
    exact h.2 p (List.mem_cons_of_mem _ hp)
theorem Blks.set_1 {w W : World} {g : Nat} {x y : Value} {e : TypeId} {l : List (Nat × Obj)} (h : Blks w W ((g, Obj.cells #[x, y] e (0, 0)) :: l)) (hg : w.heap.size ≤ g) (hl : ∀ p ∈ l, p.1 ≠ g) (y' : Value) :
    Blks w (W.setCell ⟨g, 1, none⟩ y') ((g, Obj.cells #[x, y'] e (0, 0)) :: l) := by
  refine ⟨h.1.setCell (p := ⟨g, 1, none⟩) hg y', fun p hp => ?_⟩
  rcases List.mem_cons.1 hp with rfl | hp
  · have h5 := h.at_ mem0
    simp [World.setCell, Array.getElem?_modify, h5]
  · rw [Below.heap_setCell _ _ _ _ (hl p hp)]
    exact h.2 p (List.mem_cons_of_mem _ hp)

set_option maxRecDepth 20000 in
set_option maxHeartbeats 4000000 in
theorem refMeet_any (v : Value) (gs : List G2) (w : World) (h : IsGaps w v gs) :
    Calls Try.prog 29 #[v] w fun e w' => e = .returned (.tuple #[gapV (mtLo gs) (mtHi gs), .int .i64 (mtErr gs)]) ∧ Below w.heap.size w w' := by
  have H := hid h
  obtain ⟨A, c, hv, hlc, hm, -⟩ := h
  unfold maxLen at hm
  subst hv
  by_cases hr : rightG gs = true
  · have HR := hid hr
    clear hr
    generalize hn : gs.length = n at *
    have HN := hid hn
    clear hn
    go_enter Try.func29, Try.ntmps29
    go_wp2_with fail
    refine (right_any _ gs _ (H.out.alloc _)).mono ?_
    rw [HR.out]
    rintro e w1 ⟨rfl, b1⟩
    have B0 := hid (((Blks.nil w).add (.cells #[.int .i64 0, .int .i64 0] 31)).below b1)
    clear b1
    have HB0 := hid (B0.out.add (.cells #[.int .i64 (-9223372036854775808), .int .i64 9223372036854775807] 31))
    have HNE : w.heap.size < w1.heap.size := B0.out.lt mem0
    generalize hp1 : w1.heap.size = p1 at *
    go_wp2_with fail
    go_loopw [5] (fun i wr => ∃ k : Nat, k ≤ n ∧ i = .int .i64 k ∧
        Blks w wr [(p1, .cells #[.int .i64 ((gs.take k).foldl meet2 meetS).1, .int .i64 ((gs.take k).foldl meet2 meetS).2] 31), (w.heap.size, .cells #[.int .i64 0, .int .i64 0] 31)])
      (fun i _ => n - (intOf i).toNat)
    case atStart => exact ⟨0, Nat.zero_le _, rfl, HB0.out⟩
    case round =>
      obtain ⟨k, hk, rfl, hB⟩ := hrel
      generalize ha : (gs.take k).foldl meet2 meetS = acc at *
      have HAC := hid ha
      obtain ⟨p, q⟩ := acc
      have HB := hid hB
      clear hB ha
      obtain ⟨a0, a1⟩ := HB.out.c2 mem0
      have f0 := HB.out.fz mem0 0
      have f1 := HB.out.fz mem0 1
      by_cases hlt : k < n
      · have hkg : k < gs.length := by have := HN.out; omega
        obtain ⟨b, o, hA, d0, d1⟩ := H.out.at_ hkg
        have HSN := hid (fold_snoc meet2 meetS gs k hkg)
        generalize gs[k] = g at *
        obtain ⟨x, y⟩ := g
        have DD := hid (fun W' (hb : Below w.heap.size w W') => show W'.cell? ⟨b, o + k * 2, none⟩ = some (.int .i64 x) ∧ W'.cell? ⟨b, o + k * 2 + 1, none⟩ = some (.int .i64 y) from
          ⟨(hb.cell (blk_lt d0)).trans d0, (hb.cell (blk_lt d1)).trans d1⟩)
        subst hA
        clear hkg d0 d1
        obtain ⟨d0, d1⟩ := DD.out _ HB.out.bel
        have hne : ∀ r ∈ [(w.heap.size, Obj.cells #[.int .i64 0, .int .i64 0] 31)], r.1 ≠ p1 := by
          intro r hr; rw [List.mem_singleton] at hr; subst hr; simp only; omega
        have NE := hid hne
        clear hne
        by_cases c1 : p < x <;> by_cases c2 : y < q
        all_goals
          have C := hid (show meet2 (p, q) (x, y) = (if p < x then x else p, if y < q then y else q) by
            unfold meet2; simp only [Prod.mk.injEq]; constructor <;> split <;> omega)
          first | rw [if_pos c1, if_pos c2] at C | rw [if_pos c1, if_neg c2] at C | rw [if_neg c1, if_pos c2] at C | rw [if_neg c1, if_neg c2] at C
          go_wp2_with fail
          go_still_tail 9, (by kernel_rfl)
          refine wpl_blks w _ HB.out.drew ?_
          intro W2 B2
          have B2 := hid B2
          clear a0 a1 f0 f1 d0 d1
          obtain ⟨a0, a1⟩ := B2.out.c2 mem0
          have f0 := B2.out.fz mem0 0
          go_wp2_with fail
          refine wp_blks w _ (B2.out.set_0 (by omega) NE.out _) ?_
          intro W3 B3
          have B3 := hid B3
          clear B2 f0 a0 a1
          obtain ⟨a0, a1⟩ := B3.out.c2 mem0
          obtain ⟨d0, d1⟩ := DD.out _ B3.out.bel
          go_still_tail 9, (by kernel_rfl)
          refine wpl_blks w _ B3.out.drew ?_
          intro W4 B4
          have B4 := hid B4
          clear a0 a1 d0 d1
          obtain ⟨a0, a1⟩ := B4.out.c2 mem0
          have f1 := B4.out.fz mem0 1
          go_wp2_with fail
          go_roundw
          case rel =>
            refine ⟨k + 1, by omega, by go_num, ?_⟩
            rw [HSN.out, HAC.out, C.out]
            exact B4.out.set_1 (by omega) NE.out _
          case measure => simp [intOf]; omega
      · have hkn : k = n := by omega
        subst hkn
        have ht : gs.take k = gs := by rw [List.take_of_length_le (by have := HN.out; omega)]
        rw [ht] at HAC
        by_cases hle : p ≤ q
        · have E0 := hid (show mtErr gs = 0 by rw [← mtErr_eq, foldErr, if_pos HR.out, HAC.out, if_pos hle])
          go_wp2_with fail
          refine (refRight_any p q _).mono ?_
          rintro e w2 ⟨rfl, b2⟩
          rw [decide_eq_true hle]
          have B2 := hid (HB.out.below b2)
          clear b2 a0 a1 f0 f1
          obtain ⟨a0, a1⟩ := B2.out.c2 mem0
          obtain ⟨r0, r1⟩ := B2.out.c2 mem1
          have z0 := B2.out.fz mem1 0
          have z1 := B2.out.fz mem1 1
          go_wp2_with fail
          exact bodyPost_ret (v := .tuple #[gapV p q, .int .i64 0]) (by simp [results, Try.results29, go_sem, r0, r1]) rfl ⟨retge (by rw [← mtLo_eq, foldLo, mtErr_eq, E0.out, if_pos rfl, HAC.out]) (by rw [← mtHi_eq, foldHi, mtErr_eq, E0.out, if_pos rfl, HAC.out]) E0.out.symm, below_set2 B2.out.bel (Nat.le_refl _) _ _⟩
        · have E0 := hid (show mtErr gs = 13 by rw [← mtErr_eq, foldErr, if_pos HR.out, HAC.out, if_neg hle])
          go_wp2_with fail
          refine (refRight_any p q _).mono ?_
          rintro e w2 ⟨rfl, b2⟩
          rw [decide_eq_false (by omega)]
          have B2 := hid (HB.out.below b2)
          clear b2 a0 a1 f0 f1
          obtain ⟨a0, a1⟩ := B2.out.c2 mem0
          obtain ⟨r0, r1⟩ := B2.out.c2 mem1
          have z0 := B2.out.fz mem1 0
          have z1 := B2.out.fz mem1 1
          go_wp2_with fail
          exact bodyPost_ret (v := .tuple #[gapV 0 0, .int .i64 13]) (by simp [results, Try.results29, go_sem, r0, r1]) rfl ⟨retge (mtLo_no' (by rw [E0.out]; decide)) (mtHi_no' (by rw [E0.out]; decide)) E0.out.symm, below_set2 B2.out.bel (Nat.le_refl _) _ _⟩
  · have E0 := hid (show mtErr gs = 10 by rw [← mtErr_eq, foldErr, if_neg hr])
    have HR := hid (show rightG gs = false by simpa using hr)
    clear hr
    go_enter Try.func29, Try.ntmps29
    go_wp2_with fail
    refine (right_any _ gs _ (H.out.alloc _)).mono ?_
    rw [HR.out]
    rintro e w1 ⟨rfl, b1⟩
    have B2 := hid (((Blks.nil w).add (.cells #[.int .i64 0, .int .i64 0] 31)).below b1)
    clear b1
    obtain ⟨r0, r1⟩ := B2.out.c2 mem0
    have z0 := B2.out.fz mem0 0
    have z1 := B2.out.fz mem0 1
    go_wp2_with fail
    exact bodyPost_ret (v := .tuple #[gapV 0 0, .int .i64 10]) (by simp [results, Try.results29, go_sem, r0, r1]) rfl ⟨retge (mtLo_no' (by rw [E0.out]; decide)) (mtHi_no' (by rw [E0.out]; decide)) E0.out.symm, below_set2 B2.out.bel (Nat.le_refl _) _ _⟩
end Go.Proofs.Ytjhekggeofalfaa
