/- Contract of noonmarkref19.Span. -/
import Derived.Test.YtjhekggeofalfaaGrid3
import Derived.Test.YtjhekggeofalfaaWild
import Derived.Test.YtjhekggeofalfaaGaps
import Derived.Deep.DeepCutAuto
namespace Go.Proofs.Ytjhekggeofalfaa
open Go.RowKit

theorem Small.mulAdd {x y t : Int} (hx : Fits x) (hy : Fits y) (ht : Fits t) : Small (x * y + t) := by
  obtain ⟨h1, h2⟩ := hx; obtain ⟨h3, h4⟩ := hy; obtain ⟨h5, h6⟩ := ht
  apply small_of
  have hm := Nat.mul_le_mul (show x.natAbs ≤ 9223372036854775808 by omega) (show y.natAbs ≤ 9223372036854775808 by omega)
  rw [← Int.natAbs_mul] at hm
  omega
/-- What the two numbers say of the window. -/
theorem span_ref {wd p mo n : Int} (g : gOk wd p mo = true) :
    (Fits (n * wd) ∧ Fits (n * wd + (wd - 1)) ∧ spE wd p mo n = 0 ∧ spLo wd p mo n = n * wd ∧ spHi wd p mo n = n * wd + (wd - 1)) ∨
    (Fits (n * wd) ∧ ¬ Fits (n * wd + (wd - 1)) ∧ spE wd p mo n = 12 ∧ spLo wd p mo n = 0 ∧ spHi wd p mo n = 0) ∨
    (¬ Fits (n * wd) ∧ spE wd p mo n = 12 ∧ spLo wd p mo n = 0 ∧ spHi wd p mo n = 0) := by
  by_cases f1 : Fits (n * wd)
  · by_cases f2 : Fits (n * wd + (wd - 1))
    · have e : spE wd p mo n = 0 := by rw [spE, if_pos g, if_pos ⟨f1, f2⟩]
      exact .inl ⟨f1, f2, e, by rw [spLo, if_pos e], by rw [spHi, if_pos e]⟩
    · have e : spE wd p mo n = 12 := by rw [spE, if_pos g, if_neg (fun q => f2 q.2)]
      exact .inr (.inl ⟨f1, f2, e, by rw [spLo, e]; rfl, by rw [spHi, e]; rfl⟩)
  · have e : spE wd p mo n = 12 := by rw [spE, if_pos g, if_neg (fun q => f1 q.1)]
    exact .inr (.inr ⟨f1, e, by rw [spLo, e]; rfl, by rw [spHi, e]; rfl⟩)
/-- A new block for a number, not written yet. -/
def NewNum (w : World) (l : List (Nat × Obj)) (v : Value) (W : World) : Prop :=
  ∃ g, v = .pointer (some ⟨g, 0, none⟩) ∧ W.heap[g]? = some (Obj.cells #[.bool false, .slice none 0 0] 85 (0, 0)) ∧ w.heap.size ≤ g ∧ ∀ p ∈ l, p.1 ≠ g
theorem NewNum.below {w W W' : World} {l : List (Nat × Obj)} {v : Value} (h : NewNum w l v W) (hb : Below W.heap.size W W') : NewNum w l v W' := by
  obtain ⟨g, hv, hg, h1, h2⟩ := h
  exact ⟨g, hv, (hb.block g (heap_lt hg)).trans hg, h1, h2⟩
theorem NewNum.mk {w W : World} {l : List (Nat × Obj)} (h : Blks w W l) : NewNum w l (.pointer (some ⟨W.heap.size, 0, none⟩)) (W.alloc (.cells #[.bool false, .slice none 0 0] 85)) :=
  ⟨_, rfl, heap_alloc_new W _, h.bel.size, fun p hp => by have := h.lt (g := p.1) (o := p.2) hp; omega⟩
/-- The number that a block of the call's own holds. -/
def NumAt (w : World) (l : List (Nat × Obj)) (z : Int) (v : Value) (W : World) : Prop :=
  ∃ g b s, v = .pointer (some ⟨g, 0, none⟩) ∧ Blks w W ((g, Obj.cells #[b, s] 85 (0, 0)) :: l) ∧ NumIs W (.agg #[b, s]) z
/-- The store of a number into its new block. -/
theorem NumAt.of {w W : World} {l : List (Nat × Obj)} {g : Nat} {b s : Value} {z : Int} (h : Blks w W l) (hg : W.heap[g]? = some (Obj.cells #[.bool false, .slice none 0 0] 85 (0, 0))) (h1 : w.heap.size ≤ g) (h2 : ∀ p ∈ l, p.1 ≠ g)
    (hn : NumIs W (.agg #[b, s]) z) : NumAt w l z (.pointer (some ⟨g, 0, none⟩)) ((W.setCell ⟨g, 0, none⟩ b).setCell ⟨g, 1, none⟩ s) := by
  have hB : Blks w W ((g, Obj.cells #[.bool false, .slice none 0 0] 85 (0, 0)) :: l) := ⟨h.1, fun x hx => by
    rcases List.mem_cons.1 hx with rfl | hx
    · exact hg
    · exact h.2 x hx⟩
  exact ⟨g, b, s, rfl, Blks.set2 hB h1 h2 b s, (res_done h.bel h1 hg hn).1⟩

/-- Region 3: what each operation leaves. -/
def sp3 (w : World) (l : List (Nat × Obj)) (n wd : Int) : Nat → Value → World → Prop
  | 0, v, _ => v = .int .i64 n
  | 1, v, W => NumIs W v n
  | 2, v, _ => v = .pointer (some ⟨w.heap.size, 0, none⟩)
  | 3, v, _ => v = .int .i64 wd
  | 4, v, W => NumIs W v wd
  | 5, v, W => NumIs W v (n * wd)
  | 6, v, W => NewNum w l v W
  | _, _, _ => True
theorem sp3_stable (w : World) (l : List (Nat × Obj)) (n wd : Int) : ∀ i v W W', Below W.heap.size W W' → sp3 w l n wd i v W → sp3 w l n wd i v W' := by
  intro i v W W' hb h
  match i, h with
  | 0, h => exact h
  | 1, h => exact NumIs.below h hb
  | 2, h => exact h
  | 3, h => exact h
  | 4, h => exact NumIs.below h hb
  | 5, h => exact NumIs.below h hb
  | 6, h => exact NewNum.below h hb
  | _ + 7, _ => trivial

/-- Region 4: what each operation leaves. -/
def sp4 (w : World) (l : List (Nat × Obj)) (p0 : Nat) (b s : Value) (z wd : Int) : Nat → Value → World → Prop
  | 0, v, _ => v = .agg #[b, s]
  | 1, v, _ => v = .pointer (some ⟨p0, 0, none⟩)
  | 2, v, _ => v = .int .i64 wd
  | 3, v, _ => v = .int .i64 (wd - 1)
  | 4, v, W => NumIs W v (wd - 1)
  | 5, v, W => NumIs W v (z + (wd - 1))
  | 6, v, W => NewNum w l v W
  | _, _, _ => True
theorem sp4_stable (w : World) (l : List (Nat × Obj)) (p0 : Nat) (b s : Value) (z wd : Int) : ∀ i v W W', Below W.heap.size W W' → sp4 w l p0 b s z wd i v W → sp4 w l p0 b s z wd i v W' := by
  intro i v W W' hb h
  match i, h with
  | 0, h => exact h
  | 1, h => exact h
  | 2, h => exact h
  | 3, h => exact h
  | 4, h => exact NumIs.below h hb
  | 5, h => exact NumIs.below h hb
  | 6, h => exact NewNum.below h hb
  | _ + 7, _ => trivial

set_option maxRecDepth 100000 in
set_option maxHeartbeats 1000000 in
theorem ref19Span_any (wd p mo n : Int) (w : World) (h1 : Fits n) :
    Calls Try.prog 37 #[gridV wd p mo, .int .i64 n] w fun e w' =>
      e = .returned (.tuple #[gapV (spLo wd p mo n) (spHi wd p mo n), .int .i64 (spE wd p mo n)]) ∧ Below w.heap.size w w' := by
  have H1 := hid h1
  clear h1
  have HB0 := hid (Blks.two w (.cells #[.int .i64 wd, .int .i64 p, .int .i64 mo] 57) (.cells #[.int .i64 0, .int .i64 0] 31))
  go_enter Try.func37, Try.ntmps37
  go_wp2_with fail
  refine (ref19Right_any wd p mo _).mono ?_
  rcases gOk_ways wd p mo with ⟨g, g1, g2, -⟩ | ⟨g, -⟩
  · rw [g]
    have G := hid g
    clear g
    rintro e w1 ⟨rfl, b1⟩
    have B := hid (HB0.out.below b1)
    clear b1 HB0
    have FW := hid (show Fits wd from ⟨by omega, by omega⟩)
    have FV := hid (show Fits (wd - 1) from ⟨by omega, by omega⟩)
    go_upto_region 3 with fail
    generalize hl : [(w.heap.size + 1, Obj.cells #[.int .i64 0, .int .i64 0] 31 (0, 0)), (w.heap.size, Obj.cells #[.int .i64 wd, .int .i64 p, .int .i64 mo] 57 (0, 0))] = l at B
    have HL := hid hl.symm
    clear hl
    go_cut [6] (fun v wr => NumAt w l (n * wd) v wr)
    case first =>
      refine wp_region_each w l 7 (sp3 w l n wd) B.out _ rfl (by kernel_rfl) (by kernel_rfl) (sp3_stable w l n wd) ?_ ?_
      · simp only [List.take_succ_cons, List.take_zero]
        refine ⟨fun x W K hB hd hK => ?_, fun x W K hB hd hK => ?_, fun x W K hB hd hK => ?_, fun x W K hB hd hK => ?_, fun x W K hB hd hK => ?_, fun x W K hB hd hK => ?_, fun x W K hB hd hK => ?_, trivial⟩
        · simp only [puts, Act.put, List.setIfInBounds_toArray, List.set_cons_zero, List.set_cons_succ, Nat.reduceAdd, Nat.zero_add] at hK ⊢
          clear hd
          generalize x 0 = x0 at *
          generalize x 1 = x1 at *
          generalize x 2 = x2 at *
          generalize x 3 = x3 at *
          generalize x 4 = x4 at *
          generalize x 5 = x5 at *
          generalize x 6 = x6 at *
          go_simp
          exact hK _ _ (Below.refl _ _) rfl
        · simp only [puts, Act.put, List.setIfInBounds_toArray, List.set_cons_zero, List.set_cons_succ, Nat.reduceAdd, Nat.zero_add] at hK ⊢
          have d0 : x 0 = .int .i64 n := hd 0 (by decide)
          clear hd
          generalize x 0 = x0 at *
          generalize x 1 = x1 at *
          generalize x 2 = x2 at *
          generalize x 3 = x3 at *
          generalize x 4 = x4 at *
          generalize x 5 = x5 at *
          generalize x 6 = x6 at *
          subst d0
          go_simp
          refine (of_any n _ H1.out).mono ?_
          rintro e w2 ⟨v2, rfl, n2, b2⟩
          exact hK v2 w2 b2 n2
        · simp only [puts, Act.put, List.setIfInBounds_toArray, List.set_cons_zero, List.set_cons_succ, Nat.reduceAdd, Nat.zero_add] at hK ⊢
          clear hd
          generalize x 0 = x0 at *
          generalize x 1 = x1 at *
          generalize x 2 = x2 at *
          generalize x 3 = x3 at *
          generalize x 4 = x4 at *
          generalize x 5 = x5 at *
          generalize x 6 = x6 at *
          go_simp
          exact hK _ _ (Below.refl _ _) rfl
        · simp only [puts, Act.put, List.setIfInBounds_toArray, List.set_cons_zero, List.set_cons_succ, Nat.reduceAdd, Nat.zero_add] at hK ⊢
          have d2 : x 2 = .pointer (some ⟨w.heap.size, 0, none⟩) := hd 2 (by decide)
          clear hd
          generalize x 0 = x0 at *
          generalize x 1 = x1 at *
          generalize x 2 = x2 at *
          generalize x 3 = x3 at *
          generalize x 4 = x4 at *
          generalize x 5 = x5 at *
          generalize x 6 = x6 at *
          subst d2
          obtain ⟨c0, c1, c2⟩ := hB.c3 (by rw [HL.out]; exact mem1)
          go_simp
          exact hK _ _ (Below.refl _ _) rfl
        · simp only [puts, Act.put, List.setIfInBounds_toArray, List.set_cons_zero, List.set_cons_succ, Nat.reduceAdd, Nat.zero_add] at hK ⊢
          have d3 : x 3 = .int .i64 wd := hd 3 (by decide)
          clear hd
          generalize x 0 = x0 at *
          generalize x 1 = x1 at *
          generalize x 2 = x2 at *
          generalize x 3 = x3 at *
          generalize x 4 = x4 at *
          generalize x 5 = x5 at *
          generalize x 6 = x6 at *
          subst d3
          go_simp
          refine (of_any wd _ FW.out).mono ?_
          rintro e w2 ⟨v2, rfl, n2, b2⟩
          exact hK v2 w2 b2 n2
        · simp only [puts, Act.put, List.setIfInBounds_toArray, List.set_cons_zero, List.set_cons_succ, Nat.reduceAdd, Nat.zero_add] at hK ⊢
          have d1 : NumIs W (x 1) n := hd 1 (by decide)
          have d4 : NumIs W (x 4) wd := hd 4 (by decide)
          clear hd
          generalize x 0 = x0 at *
          generalize x 1 = x1 at *
          generalize x 2 = x2 at *
          generalize x 3 = x3 at *
          generalize x 4 = x4 at *
          generalize x 5 = x5 at *
          generalize x 6 = x6 at *
          have D1 := hid d1
          clear d1
          have D4 := hid d4
          clear d4
          go_simp
          refine (mul_any _ _ n wd _ D1.out D4.out H1.out.small FW.out.small).mono ?_
          rintro e w2 ⟨v2, rfl, n2, b2⟩
          exact hK v2 w2 b2 n2
        · simp only [puts, Act.put, List.setIfInBounds_toArray, List.set_cons_zero, List.set_cons_succ, Nat.reduceAdd, Nat.zero_add] at hK ⊢
          clear hd
          generalize x 0 = x0 at *
          generalize x 1 = x1 at *
          generalize x 2 = x2 at *
          generalize x 3 = x3 at *
          generalize x 4 = x4 at *
          generalize x 5 = x5 at *
          generalize x 6 = x6 at *
          go_simp
          exact hK _ _ ((Below.refl _ _).alloc (Nat.le_refl _) _) (NewNum.mk hB)
      · intro x W hB hd
        have d5 : NumIs W (x 5) (n * wd) := hd 5 (by decide)
        have d6 : NewNum w l (x 6) W := hd 6 (by decide)
        clear hd
        simp only [List.take_succ_cons, List.take_zero]
        simp only [puts, Act.put, List.setIfInBounds_toArray, List.set_cons_zero, List.set_cons_succ, Nat.reduceAdd, Nat.zero_add]
        generalize x 0 = x0 at *
        generalize x 1 = x1 at *
        generalize x 2 = x2 at *
        generalize x 3 = x3 at *
        generalize x 4 = x4 at *
        generalize x 5 = x5 at *
        generalize x 6 = x6 at *
        obtain ⟨g, rfl, hg, hg1, hg2⟩ := d6
        have N5 := hid d5
        obtain ⟨s5, ds5, rfl, hr5, -⟩ := d5
        obtain ⟨A5, c5, rfl, -⟩ := hr5
        obtain ⟨q0, q1, z0, z1⟩ := blk_c hg
        have NA := hid (NumAt.of hB hg hg1 hg2 N5.out)
        clear hg hg1 hg2
        go_simp
        go_wp2_with fail
        go_meet
        exact NA.out
    case rest =>
      obtain ⟨g, b, s, rfl, hB, hN⟩ := hcut
      have BW := hid hB.bel
      have B4 := hid (show Blks wc wc ((g, Obj.cells #[b, s] 85 (0, 0)) :: l) from ⟨Below.refl _ _, hB.2⟩)
      have N1 := hid hN
      obtain ⟨sa, sds, hv, hrr, -⟩ := hN
      obtain ⟨sA, sc, hsl, -⟩ := hrr
      subst hsl
      injection hv with hv
      injection hv with hv
      injection hv with hv1 hv2
      injection hv2 with hv2
      subst hv1 hv2
      clear hB B
      have SZ := hid (Small.mul H1.out FW.out)
      have SZ2 := hid (Small.mulAdd H1.out FW.out FV.out)
      have RE := hid (span_ref (p := p) (mo := mo) (n := n) G.out)
      generalize n * wd = z at *
      generalize hbb : Value.bool (decide (z < 0)) = bb at *
      generalize Value.slice sA sds.length sc = ss at *
      clear hbb
      go_upto_region 4 with fail
      generalize hl4 : ((g, Obj.cells #[bb, ss] 85 (0, 0)) :: l) = l4 at B4
      have HL4 := hid hl4.symm
      clear hl4
      obtain ⟨wx, rfl⟩ : ∃ wx : World, wx = wc := ⟨_, rfl⟩
      go_cut [7] (fun v wr => NumAt wx l4 (z + (wd - 1)) v wr)
      case first =>
        refine wp_region_each wx l4 7 (sp4 wx l4 w.heap.size bb ss z wd) B4.out _ rfl (by kernel_rfl) (by kernel_rfl) (sp4_stable wx l4 w.heap.size bb ss z wd) ?_ ?_
        · simp only [List.take_succ_cons, List.take_zero]
          refine ⟨fun x W K hB hd hK => ?_, fun x W K hB hd hK => ?_, fun x W K hB hd hK => ?_, fun x W K hB hd hK => ?_, fun x W K hB hd hK => ?_, fun x W K hB hd hK => ?_, fun x W K hB hd hK => ?_, trivial⟩
          · simp only [puts, Act.put, List.setIfInBounds_toArray, List.set_cons_zero, List.set_cons_succ, Nat.reduceAdd, Nat.zero_add] at hK ⊢
            clear hd
            generalize x 0 = x0 at *
            generalize x 1 = x1 at *
            generalize x 2 = x2 at *
            generalize x 3 = x3 at *
            generalize x 4 = x4 at *
            generalize x 5 = x5 at *
            generalize x 6 = x6 at *
            obtain ⟨c0, c1⟩ := hB.c2 (by rw [HL4.out]; exact mem0)
            go_simp
            exact hK _ _ (Below.refl _ _) rfl
          · simp only [puts, Act.put, List.setIfInBounds_toArray, List.set_cons_zero, List.set_cons_succ, Nat.reduceAdd, Nat.zero_add] at hK ⊢
            clear hd
            generalize x 0 = x0 at *
            generalize x 1 = x1 at *
            generalize x 2 = x2 at *
            generalize x 3 = x3 at *
            generalize x 4 = x4 at *
            generalize x 5 = x5 at *
            generalize x 6 = x6 at *
            go_simp
            exact hK _ _ (Below.refl _ _) rfl
          · simp only [puts, Act.put, List.setIfInBounds_toArray, List.set_cons_zero, List.set_cons_succ, Nat.reduceAdd, Nat.zero_add] at hK ⊢
            have d1 : x 1 = .pointer (some ⟨w.heap.size, 0, none⟩) := hd 1 (by decide)
            clear hd
            generalize x 0 = x0 at *
            generalize x 1 = x1 at *
            generalize x 2 = x2 at *
            generalize x 3 = x3 at *
            generalize x 4 = x4 at *
            generalize x 5 = x5 at *
            generalize x 6 = x6 at *
            subst d1
            obtain ⟨c0, c1, c2⟩ := hB.c3 (by rw [HL4.out, HL.out]; exact mem2)
            go_simp
            exact hK _ _ (Below.refl _ _) rfl
          · simp only [puts, Act.put, List.setIfInBounds_toArray, List.set_cons_zero, List.set_cons_succ, Nat.reduceAdd, Nat.zero_add] at hK ⊢
            have d2 : x 2 = .int .i64 wd := hd 2 (by decide)
            clear hd
            generalize x 0 = x0 at *
            generalize x 1 = x1 at *
            generalize x 2 = x2 at *
            generalize x 3 = x3 at *
            generalize x 4 = x4 at *
            generalize x 5 = x5 at *
            generalize x 6 = x6 at *
            subst d2
            have sw : IntKind.i64.wrap (wd - 1) = wd - 1 := IntWalk.i64_in _ (by omega)
            go_simp
            exact hK _ _ (Below.refl _ _) rfl
          · simp only [puts, Act.put, List.setIfInBounds_toArray, List.set_cons_zero, List.set_cons_succ, Nat.reduceAdd, Nat.zero_add] at hK ⊢
            have d3 : x 3 = .int .i64 (wd - 1) := hd 3 (by decide)
            clear hd
            generalize x 0 = x0 at *
            generalize x 1 = x1 at *
            generalize x 2 = x2 at *
            generalize x 3 = x3 at *
            generalize x 4 = x4 at *
            generalize x 5 = x5 at *
            generalize x 6 = x6 at *
            subst d3
            go_simp
            refine (of_any (wd - 1) _ FV.out).mono ?_
            rintro e w2 ⟨v2, rfl, n2, b2⟩
            exact hK v2 w2 b2 n2
          · simp only [puts, Act.put, List.setIfInBounds_toArray, List.set_cons_zero, List.set_cons_succ, Nat.reduceAdd, Nat.zero_add] at hK ⊢
            have d0 : x 0 = .agg #[bb, ss] := hd 0 (by decide)
            have d4 : NumIs W (x 4) (wd - 1) := hd 4 (by decide)
            clear hd
            generalize x 0 = x0 at *
            generalize x 1 = x1 at *
            generalize x 2 = x2 at *
            generalize x 3 = x3 at *
            generalize x 4 = x4 at *
            generalize x 5 = x5 at *
            generalize x 6 = x6 at *
            subst d0
            have D4 := hid d4
            clear d4
            go_simp
            refine (add_any _ _ z (wd - 1) _ (N1.out.below hB.bel) D4.out SZ.out FV.out.small).mono ?_
            rintro e w2 ⟨v2, rfl, n2, b2⟩
            exact hK v2 w2 b2 n2
          · simp only [puts, Act.put, List.setIfInBounds_toArray, List.set_cons_zero, List.set_cons_succ, Nat.reduceAdd, Nat.zero_add] at hK ⊢
            clear hd
            generalize x 0 = x0 at *
            generalize x 1 = x1 at *
            generalize x 2 = x2 at *
            generalize x 3 = x3 at *
            generalize x 4 = x4 at *
            generalize x 5 = x5 at *
            generalize x 6 = x6 at *
            go_simp
            exact hK _ _ ((Below.refl _ _).alloc (Nat.le_refl _) _) (NewNum.mk hB)
        · intro x W hB hd
          have d5 : NumIs W (x 5) (z + (wd - 1)) := hd 5 (by decide)
          have d6 : NewNum wx l4 (x 6) W := hd 6 (by decide)
          clear hd
          simp only [List.take_succ_cons, List.take_zero]
          simp only [puts, Act.put, List.setIfInBounds_toArray, List.set_cons_zero, List.set_cons_succ, Nat.reduceAdd, Nat.zero_add]
          generalize x 0 = x0 at *
          generalize x 1 = x1 at *
          generalize x 2 = x2 at *
          generalize x 3 = x3 at *
          generalize x 4 = x4 at *
          generalize x 5 = x5 at *
          generalize x 6 = x6 at *
          obtain ⟨g, rfl, hg, hg1, hg2⟩ := d6
          have N5 := hid d5
          obtain ⟨s5, ds5, rfl, hr5, -⟩ := d5
          obtain ⟨A5, c5, rfl, -⟩ := hr5
          obtain ⟨q0, q1, z0, z1⟩ := blk_c hg
          have NA := hid (NumAt.of hB hg hg1 hg2 N5.out)
          clear hg hg1 hg2
          go_simp
          go_wp2_with fail
          go_meet
          exact NA.out
      case rest =>
        obtain ⟨g2, b2, s2, rfl, hB, hN⟩ := hcut
        have B := hid (show Blks w wc ((g2, Obj.cells #[b2, s2] 85 (0, 0)) :: l4) from ⟨BW.out.trans (hB.bel.mono BW.out.size), hB.2⟩)
        have N2 := hid hN
        replace N1 := hid (N1.out.below hB.bel)
        obtain ⟨sa, sds, hv, hrr, -⟩ := hN
        obtain ⟨sA, sc, hsl, -⟩ := hrr
        subst hsl
        injection hv with hv
        injection hv with hv
        injection hv with hv1 hv2
        injection hv2 with hv2
        subst hv1 hv2
        clear hB B4
        generalize hbb : Value.bool (decide (z + (wd - 1) < 0)) = bb2 at *
        generalize Value.slice sA sds.length sc = ss2 at *
        clear hbb
        rw [HL4.out, HL.out] at B
        obtain ⟨c0, c1⟩ := B.out.c2 mem1
        go_wp2_with fail
        refine (long_any _ z _ N1.out SZ.out).mono ?_
        rintro e w3 ⟨rfl, b3⟩
        replace B := hid (B.out.below b3)
        replace N2 := hid (N2.out.below b3)
        clear b3 c0 c1 N1
        obtain ⟨c0, c1⟩ := B.out.c2 mem0
        go_wp2_with fail
        refine (long_any _ (z + (wd - 1)) _ N2.out SZ2.out).mono ?_
        rintro e w4 ⟨rfl, b4⟩
        replace B := hid (B.out.below b4)
        clear b4 c0 c1 N2
        obtain ⟨r0, r1⟩ := B.out.c2 mem2
        have z0 := B.out.fz mem2 0
        have z1 := B.out.fz mem2 1
        rcases RE.out with ⟨f1, f2, e1, e2, e3⟩ | ⟨f1, f2, e1, e2, e3⟩ | ⟨f1, e1, e2, e3⟩
        · rw [longV_yes f1, longV_yes f2, decide_eq_true f1, decide_eq_true f2]
          clear f1 f2
          have E1 := hid e1
          have E2 := hid e2
          have E3 := hid e3
          clear e1 e2 e3
          go_wp2_with fail
          exact bodyPost_ret (v := .tuple #[gapV z (z + (wd - 1)), .int .i64 0]) (by simp [results, Try.results37, go_sem, r0, r1]) rfl ⟨retge E2.out.symm E3.out.symm E1.out.symm, below_set2 B.out.bel (by omega) _ _⟩
        · rw [longV_yes f1, decide_eq_true f1, decide_eq_false f2]
          generalize longV (z + (wd - 1)) = q
          clear f1 f2
          have E1 := hid e1
          have E2 := hid e2
          have E3 := hid e3
          clear e1 e2 e3
          go_wp2_with fail
          exact bodyPost_ret (v := .tuple #[gapV 0 0, .int .i64 12]) (by simp [results, Try.results37, go_sem, r0, r1]) rfl ⟨retge E2.out.symm E3.out.symm E1.out.symm, below_set2 B.out.bel (by omega) _ _⟩
        · rw [decide_eq_false f1]
          generalize longV (z + (wd - 1)) = q
          generalize longV z = q'
          generalize decide (Fits (z + (wd - 1))) = fb
          clear f1
          have E1 := hid e1
          have E2 := hid e2
          have E3 := hid e3
          clear e1 e2 e3
          go_wp2_with fail
          exact bodyPost_ret (v := .tuple #[gapV 0 0, .int .i64 12]) (by simp [results, Try.results37, go_sem, r0, r1]) rfl ⟨retge E2.out.symm E3.out.symm E1.out.symm, below_set2 B.out.bel (by omega) _ _⟩
  · rw [g]
    have E := hid (show spE wd p mo n = 21 by rw [spE, g]; rfl)
    clear g
    rintro e w1 ⟨rfl, b1⟩
    have B := hid (HB0.out.below b1)
    clear b1 HB0
    obtain ⟨r0, r1⟩ := B.out.c2 mem0
    have z0 := B.out.fz mem0 0
    have z1 := B.out.fz mem0 1
    go_wp2_with fail
    exact bodyPost_ret (v := .tuple #[gapV 0 0, .int .i64 21]) (by simp [results, Try.results37, go_sem, r0, r1]) rfl ⟨retge (by rw [spLo, E.out]; rfl) (by rw [spHi, E.out]; rfl) E.out.symm, below_set2 B.out.bel (by omega) _ _⟩
end Go.Proofs.Ytjhekggeofalfaa
