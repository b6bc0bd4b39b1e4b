/- Contracts of noonmarklaw02.num, noonmarkref02.Words. -/
import Derived.Test.YtjhekggeofalfaaDoorRNum
import Derived.Test.YtjhekggeofalfaaDoorDiv2
import Derived.Deep.DeepCutAuto
namespace Go.Proofs.YtjhekggeofalfaaDoor
open Go.RowKit

/-- A new block for a number, not written yet. -/
def NewNum (w : World) (l : List (Nat × Obj)) (v : Value) (W : World) : Prop :=
  ∃ g, v = .pointer (some ⟨g, 0, none⟩) ∧ W.heap[g]? = some (Obj.cells #[.bool false, .slice none 0 0] 34 (0, 0)) ∧ w.heap.size ≤ g ∧ ∀ p ∈ l, p.1 ≠ g
theorem NewNum.below {w W W' : World} {l : List (Nat × Obj)} {v : Value} (h : NewNum w l v W) (hb : Below W.heap.size W W') : NewNum w l v W' := by
  obtain ⟨g, hv, hg, h1, h2⟩ := h
  exact ⟨g, hv, (hb.block g (heap_lt hg)).trans hg, h1, h2⟩
theorem NewNum.mk {w W : World} {l : List (Nat × Obj)} (h : Blks w W l) : NewNum w l (.pointer (some ⟨W.heap.size, 0, none⟩)) (W.alloc (.cells #[.bool false, .slice none 0 0] 34)) :=
  ⟨_, rfl, heap_alloc_new W _, h.bel.size, fun p hp => by have := h.lt (g := p.1) (o := p.2) hp; omega⟩
/-- The number that a block of the call's own holds. -/
def NumAt (w : World) (l : List (Nat × Obj)) (z : Int) (v : Value) (W : World) : Prop :=
  ∃ g b s, v = .pointer (some ⟨g, 0, none⟩) ∧ Blks w W ((g, Obj.cells #[b, s] 34 (0, 0)) :: l) ∧ NumIs W (.agg #[b, s]) z
/-- The store of a number into its new block. -/
theorem NumAt.of {w W : World} {l : List (Nat × Obj)} {g : Nat} {b s : Value} {z : Int} (h : Blks w W l) (hg : W.heap[g]? = some (Obj.cells #[.bool false, .slice none 0 0] 34 (0, 0))) (h1 : w.heap.size ≤ g) (h2 : ∀ p ∈ l, p.1 ≠ g)
    (hn : NumIs W (.agg #[b, s]) z) : NumAt w l z (.pointer (some ⟨g, 0, none⟩)) ((W.setCell ⟨g, 0, none⟩ b).setCell ⟨g, 1, none⟩ s) := by
  have hB : Blks w W ((g, Obj.cells #[.bool false, .slice none 0 0] 34 (0, 0)) :: l) := ⟨h.1, fun x hx => by
    rcases List.mem_cons.1 hx with rfl | hx
    · exact hg
    · exact h.2 x hx⟩
  exact ⟨g, b, s, rfl, Blks.set2 hB h1 h2 b s, (res_done h.bel h1 hg hn).1⟩


instance (z : Int) : Decidable (Fits2 z) := inferInstanceAs (Decidable (_ ∧ _))
theorem fits2_hi (z : Int) : Fits (z / 18446744073709551616) ↔ Fits2 z := by unfold Fits Fits2; omega
def hiW (z : Int) : Int := if Fits2 z then z / 18446744073709551616 else 0
def loW (z : Int) : Int := if Fits2 z then z % 18446744073709551616 else 0

set_option maxRecDepth 100000 in
set_option maxHeartbeats 1000000 in
theorem num_any (z : Int) (w : World) (h : Fits2 z) :
    Calls Tryd.prog 13 #[wideV z] w (NumPost w z) := by
  have HI := hid (hi_fits h)
  have HU := hid (show U64 (z % 18446744073709551616) from ⟨by omega, by omega⟩)
  have E := hid (show z / 18446744073709551616 * 18446744073709551616 + z % 18446744073709551616 = z by omega)
  clear h
  unfold wideV
  have B := hid (Blks.two w (.cells #[.int .i64 (z / 18446744073709551616), .int .u64 (z % 18446744073709551616)] 24) (.cells #[.bool false, .slice none 0 0] 34))
  go_enter Tryd.func13, Tryd.ntmps13
  go_wp2_with fail
  refine (refNum_any _ _ _ HI.out HU.out).mono ?_
  rw [E.out]
  rintro e w1 ⟨v1, rfl, n1, b1⟩
  replace B := hid (B.out.below b1)
  have N1 := hid n1
  obtain ⟨s1, d1, rfl, hr1, -⟩ := n1
  obtain ⟨A1, c1, rfl, -⟩ := hr1
  clear b1 HI HU E
  obtain ⟨r0, r1⟩ := B.out.c2 mem0
  have z0 := B.out.fz mem0 0
  have z1 := B.out.fz mem0 1
  have D := hid (res_done (w := w) (g := w.heap.size + 1) B.out.bel (by omega) (B.out.at_ mem0) N1.out)
  go_wp2_with fail
  exact bodyPost_ret (v := .agg #[.bool (decide (z < 0)), .slice A1 d1.length c1]) (by simp [results, Tryd.results13, go_sem, r0, r1]) rfl ⟨_, rfl, D.out.1, D.out.2⟩

/-- Numbers below 2^150. -/
def Mid150 (z : Int) : Prop := (z.natAbs : Int) < 1427247692705959881058285969449495136382746624
theorem Mid150.small {z : Int} (h : Mid150 z) : Small z := small_of (by unfold Mid150 at h; omega)
theorem small_neg {z : Int} (h : Small z) : Small (-z) := by unfold Small at *; omega
/-- Region 5: what each operation leaves. -/
def woφ (w : World) (l : List (Nat × Obj)) (p : Bool) (sl : Value) (g : Nat) (q z : Int) : Nat → Value → World → Prop
  | 0, v, _ => v = .agg #[.bool p, sl]
  | 1, v, _ => v = .int .i64 q
  | 2, v, W => NumIs W v q
  | 3, v, _ => v = .agg #[.bool false, .slice (some ⟨g, 0, none⟩) 5 5]
  | 4, v, W => NumIs W v (q * 18446744073709551616)
  | 5, v, W => NumIs W v (-(q * 18446744073709551616))
  | 6, v, W => NumIs W v (z + -(q * 18446744073709551616))
  | 7, v, W => NewNum w l v W
  | _, _, _ => True
theorem woφ_stable (w : World) (l : List (Nat × Obj)) (p : Bool) (sl : Value) (g : Nat) (q z : Int) : ∀ i v W W', Below W.heap.size W W' → woφ w l p sl g q z i v W → woφ w l p sl g q z i v W' := by
  intro i v W W' hb h
  match i, h with
  | 0, h => exact h
  | 1, h => exact h
  | 2, h => exact NumIs.below h hb
  | 3, h => exact h
  | 4, h => exact NumIs.below h hb
  | 5, h => exact NumIs.below h hb
  | 6, h => exact NumIs.below h hb
  | 7, h => exact NewNum.below h hb
  | _ + 8, _ => trivial

set_option maxRecDepth 100000 in
set_option maxHeartbeats 1000000 in
theorem words_any (v : Value) (z : Int) (w : World) (h : NumIs w v z) (md : Mid150 z) :
    Calls Tryd.prog 29 #[v] w fun e w' => e = .returned (.tuple #[.int .i64 (hiW z), .int .u64 (loW z), .bool (decide (Fits2 z))]) ∧ Below w.heap.size w w' := by
  have HN := hid h
  have SZ := hid md.small
  obtain ⟨s, ds, rfl, hr, -, -⟩ := h
  obtain ⟨A, c, rfl, -, -, -⟩ := hr
  generalize hp : decide (z < 0) = p at *
  generalize ds.length = n at *
  clear hp
  have QR := hid (show z / 18446744073709551616 * 18446744073709551616 + z % 18446744073709551616 = z by omega)
  have R0 := hid (show 0 ≤ z % 18446744073709551616 ∧ z % 18446744073709551616 < 18446744073709551616 by omega)
  have SQ := hid (show Small (z / 18446744073709551616) from small_of (by unfold Mid150 at md; omega))
  have SM := hid (show Small (z / 18446744073709551616 * 18446744073709551616) from small_of (by unfold Mid150 at md; omega))
  have FQ := hid (fits2_hi z)
  have HWE := hid (show hiW z = if Fits2 z then z / 18446744073709551616 else 0 from rfl)
  have LWE := hid (show loW z = if Fits2 z then z % 18446744073709551616 else 0 from rfl)
  have FBE := hid (rfl : decide (Fits2 z) = decide (Fits2 z))
  generalize hhw : hiW z = hw at HWE ⊢
  generalize hlw : loW z = lw at LWE ⊢
  generalize hfb : decide (Fits2 z) = fb at FBE ⊢
  replace FBE := hid hfb
  clear md hhw hlw hfb
  have HB := hid (Blks.three w (.cells #[.bool p, .slice A n c] 34) (.cells (rowOf [0, 0, 0, 0, 1]) 3) (.cells #[.bool false, .slice (some ⟨w.heap.size + 1, 0, none⟩) 5 5] 34))
  go_enter Tryd.func29, Tryd.ntmps29
  go_wp2_with fail
  refine (div_any _ _ z 18446744073709551616 false _ (HN.out.below HB.out.bel) (word_is HB.out mem1) SZ.out small_word (by decide)).mono ?_
  rw [show divOf z 18446744073709551616 false = z / 18446744073709551616 from rfl]
  generalize z / 18446744073709551616 = q at *
  generalize z % 18446744073709551616 = r at *
  rintro e w1 ⟨v1, rfl, n1, b1⟩
  replace HB := hid (HB.out.below b1)
  have N1 := hid n1
  clear b1 n1
  go_wp2_with fail
  refine (long_any v1 q _ N1.out SQ.out).mono ?_
  by_cases f : Fits q
  · rw [decide_eq_true f, longV_yes f]
    obtain rfl : q = hw := by rw [HWE.out, if_pos (FQ.out.1 f)]
    obtain rfl : r = lw := by rw [LWE.out, if_pos (FQ.out.1 f)]
    obtain rfl : fb = true := by rw [← FBE.out]; exact decide_eq_true (FQ.out.1 f)
    have F := hid f
    clear f FQ HWE LWE N1 FBE
    rintro e w2 ⟨rfl, b2⟩
    replace HB := hid (HB.out.below b2)
    clear b2
    go_upto_region 5 with fail
    have B := HB
    clear HB
    generalize hl : [(w.heap.size + 1 + 1, Obj.cells #[.bool false, .slice (some ⟨w.heap.size + 1, 0, none⟩) 5 5] 34 (0, 0)), (w.heap.size + 1, Obj.cells (rowOf [0, 0, 0, 0, 1]) 3 (0, 0)), (w.heap.size, Obj.cells #[.bool p, .slice A n c] 34 (0, 0))] = l at B
    have HL := hid hl.symm
    clear hl
    go_cut [8] (fun v wr => NumAt w l r v wr)
    case first =>
      refine wp_region_each w l 8 (woφ w l p (.slice A n c) (w.heap.size + 1) q z) B.out _ rfl (by kernel_rfl) (by kernel_rfl) (woφ_stable w l p (.slice A n c) (w.heap.size + 1) q z) ?_ ?_
      · simp only [List.take_succ_cons, List.take_zero]
        refine ⟨fun x W K hB hd hK => ?_, fun x W K hB hd hK => ?_, fun x W K hB hd hK => ?_, fun x W K hB hd hK => ?_, fun x W K hB hd hK => ?_, fun x W K hB hd hK => ?_, fun x W K hB hd hK => ?_, fun x W K hB hd hK => ?_, trivial⟩
        · simp only [puts, Act.put, List.setIfInBounds_toArray, List.set_cons_zero, List.set_cons_succ, Nat.reduceAdd, Nat.zero_add] at hK ⊢
          clear hd
          generalize x 0 = x0 at *
          generalize x 1 = x1 at *
          generalize x 2 = x2 at *
          generalize x 3 = x3 at *
          generalize x 4 = x4 at *
          generalize x 5 = x5 at *
          generalize x 6 = x6 at *
          generalize x 7 = x7 at *
          obtain ⟨c0, c1⟩ := hB.c2 (by rw [HL.out]; exact mem2)
          go_simp
          exact hK _ _ (Below.refl _ _) rfl
        · simp only [puts, Act.put, List.setIfInBounds_toArray, List.set_cons_zero, List.set_cons_succ, Nat.reduceAdd, Nat.zero_add] at hK ⊢
          clear hd
          generalize x 0 = x0 at *
          generalize x 1 = x1 at *
          generalize x 2 = x2 at *
          generalize x 3 = x3 at *
          generalize x 4 = x4 at *
          generalize x 5 = x5 at *
          generalize x 6 = x6 at *
          generalize x 7 = x7 at *
          go_simp
          exact hK _ _ (Below.refl _ _) rfl
        · simp only [puts, Act.put, List.setIfInBounds_toArray, List.set_cons_zero, List.set_cons_succ, Nat.reduceAdd, Nat.zero_add] at hK ⊢
          have d1 : x 1 = .int .i64 q := hd 1 (by decide)
          clear hd
          generalize x 0 = x0 at *
          generalize x 1 = x1 at *
          generalize x 2 = x2 at *
          generalize x 3 = x3 at *
          generalize x 4 = x4 at *
          generalize x 5 = x5 at *
          generalize x 6 = x6 at *
          generalize x 7 = x7 at *
          subst d1
          go_simp
          refine (of_any q _ F.out).mono ?_
          rintro e w2 ⟨v2, rfl, n2, b2⟩
          exact hK v2 w2 b2 n2
        · simp only [puts, Act.put, List.setIfInBounds_toArray, List.set_cons_zero, List.set_cons_succ, Nat.reduceAdd, Nat.zero_add] at hK ⊢
          clear hd
          generalize x 0 = x0 at *
          generalize x 1 = x1 at *
          generalize x 2 = x2 at *
          generalize x 3 = x3 at *
          generalize x 4 = x4 at *
          generalize x 5 = x5 at *
          generalize x 6 = x6 at *
          generalize x 7 = x7 at *
          obtain ⟨c0, c1⟩ := hB.c2 (by rw [HL.out]; exact mem0)
          go_simp
          exact hK _ _ (Below.refl _ _) rfl
        · simp only [puts, Act.put, List.setIfInBounds_toArray, List.set_cons_zero, List.set_cons_succ, Nat.reduceAdd, Nat.zero_add] at hK ⊢
          have d2 : NumIs W (x 2) q := hd 2 (by decide)
          have d3 : x 3 = .agg #[.bool false, .slice (some ⟨w.heap.size + 1, 0, none⟩) 5 5] := hd 3 (by decide)
          clear hd
          generalize x 0 = x0 at *
          generalize x 1 = x1 at *
          generalize x 2 = x2 at *
          generalize x 3 = x3 at *
          generalize x 4 = x4 at *
          generalize x 5 = x5 at *
          generalize x 6 = x6 at *
          generalize x 7 = x7 at *
          have D2 := hid d2
          clear d2
          subst d3
          go_simp
          refine (mul_any _ _ q _ _ D2.out (word_is hB (by rw [HL.out]; exact mem1)) F.out.small small_word).mono ?_
          rintro e w2 ⟨v2, rfl, n2, b2⟩
          exact hK v2 w2 b2 n2
        · simp only [puts, Act.put, List.setIfInBounds_toArray, List.set_cons_zero, List.set_cons_succ, Nat.reduceAdd, Nat.zero_add] at hK ⊢
          have d4 : NumIs W (x 4) (q * 18446744073709551616) := hd 4 (by decide)
          clear hd
          generalize x 0 = x0 at *
          generalize x 1 = x1 at *
          generalize x 2 = x2 at *
          generalize x 3 = x3 at *
          generalize x 4 = x4 at *
          generalize x 5 = x5 at *
          generalize x 6 = x6 at *
          generalize x 7 = x7 at *
          have D4 := hid d4
          clear d4
          go_simp
          refine (neg_any _ _ _ D4.out).mono ?_
          rintro e w2 ⟨v2, rfl, n2, b2⟩
          exact hK v2 w2 b2 n2
        · simp only [puts, Act.put, List.setIfInBounds_toArray, List.set_cons_zero, List.set_cons_succ, Nat.reduceAdd, Nat.zero_add] at hK ⊢
          have d0 : x 0 = .agg #[.bool p, .slice A n c] := hd 0 (by decide)
          have d5 : NumIs W (x 5) (-(q * 18446744073709551616)) := hd 5 (by decide)
          clear hd
          generalize x 0 = x0 at *
          generalize x 1 = x1 at *
          generalize x 2 = x2 at *
          generalize x 3 = x3 at *
          generalize x 4 = x4 at *
          generalize x 5 = x5 at *
          generalize x 6 = x6 at *
          generalize x 7 = x7 at *
          subst d0
          have D5 := hid d5
          clear d5
          go_simp
          refine (add_any _ _ z _ _ (HN.out.below hB.bel) D5.out SZ.out (small_neg SM.out)).mono ?_
          rintro e w2 ⟨v2, rfl, n2, b2⟩
          exact hK v2 w2 b2 n2
        · simp only [puts, Act.put, List.setIfInBounds_toArray, List.set_cons_zero, List.set_cons_succ, Nat.reduceAdd, Nat.zero_add] at hK ⊢
          clear hd
          generalize x 0 = x0 at *
          generalize x 1 = x1 at *
          generalize x 2 = x2 at *
          generalize x 3 = x3 at *
          generalize x 4 = x4 at *
          generalize x 5 = x5 at *
          generalize x 6 = x6 at *
          generalize x 7 = x7 at *
          go_simp
          exact hK _ _ ((Below.refl _ _).alloc (Nat.le_refl _) _) (NewNum.mk hB)
      · intro x W hB hd
        have d6 : NumIs W (x 6) (z + -(q * 18446744073709551616)) := hd 6 (by decide)
        have d7 : NewNum w l (x 7) W := hd 7 (by decide)
        clear hd
        simp only [List.take_succ_cons, List.take_zero]
        simp only [puts, Act.put, List.setIfInBounds_toArray, List.set_cons_zero, List.set_cons_succ, Nat.reduceAdd, Nat.zero_add]
        generalize x 0 = x0 at *
        generalize x 1 = x1 at *
        generalize x 2 = x2 at *
        generalize x 3 = x3 at *
        generalize x 4 = x4 at *
        generalize x 5 = x5 at *
        generalize x 6 = x6 at *
        generalize x 7 = x7 at *
        obtain ⟨g, rfl, hg, hg1, hg2⟩ := d7
        rw [show z + -(q * 18446744073709551616) = r by have := QR.out; omega] at d6
        have N5 := hid d6
        obtain ⟨s5, ds5, rfl, hr5, -⟩ := d6
        obtain ⟨A5, c5, rfl, -⟩ := hr5
        obtain ⟨q0, q1, z0, z1⟩ := blk_c hg
        have NA := hid (NumAt.of hB hg hg1 hg2 N5.out)
        clear hg hg1 hg2
        go_simp
        go_wp2_with fail
        go_meet
        exact NA.out
    case rest =>
      obtain ⟨g, b, s, rfl, hB, hN⟩ := hcut
      obtain ⟨sa, sds, hv, hrr, hcan, hval⟩ := hN
      have HR := hid hrr
      obtain ⟨sA, sc, hsl, -⟩ := hrr
      subst hsl
      injection hv with hv
      injection hv with hv
      injection hv with hv1 hv2
      injection hv2 with hv2
      subst hv1 hv2
      have L4 := hid (show sds.length ≤ 4 from hcan.length_le (by rw [hval, pw4]; have := R0.out; omega))
      have VAL := hid (show val sds = r by have := R0.out; omega)
      have CAN := hid hcan
      have B2 := hid hB.bel
      obtain ⟨c0, c1⟩ := hB.c2 mem0
      clear hB hval hcan B HL HN SZ QR SM SQ
      generalize hm : sds.length = m at *
      have HM := hid hm
      clear hm
      have m4 : m ≤ 4 := L4.out
      clear L4
      generalize decide (r < 0) = pr at *
      go_wp2_with fail
      go_loop [9, 10] (fun x i => ∃ (k : Nat) (y : Int), k ≤ m ∧ x = .int .u64 y ∧ 0 ≤ y ∧ y ≤ 18446744073709551615 ∧ i = .int .i64 ((k : Int) - 1) ∧ y = val (sds.drop k)) (fun _ i => (intOf i + 1).toNat)
      case atStart => exact ⟨m, 0, Nat.le_refl _, rfl, by omega, by omega, rfl, by rw [List.drop_of_length_le (by have := HM.out; omega)]; rfl⟩
      case round =>
        obtain ⟨k, y, hk, rfl, hy0, hy1, rfl, hy⟩ := hrel
        have HY := hid hy
        clear hy
        by_cases h0 : k = 0
        · subst h0
          rw [show ((0 : Nat) : Int) - 1 = -1 from rfl]
          have HE := hid (show y = r by rw [HY.out, ← VAL.out]; rfl)
          go_wp2
          go_ret3
          exact ⟨by rw [← HE.out]; rfl, B2.out⟩
        · obtain ⟨j, rfl⟩ : ∃ j, k = j + 1 := ⟨k - 1, by omega⟩
          have hj : ((j + 1 : Nat) : Int) - 1 = (j : Int) := by omega
          rw [hj]
          clear h0 hj
          obtain ⟨b, o, hA, hb, hcell⟩ : ∃ b o, sA = some ⟨b, o, none⟩ ∧ b < wc.heap.size ∧ ∀ i, i < sds.length → wc.cell? ⟨b, o + i, none⟩ = some (.int .i64 (lim sds i)) := by
            obtain ⟨A', c', hv, -, -, hx⟩ := HR.out
            injection hv with e1 e2 e3
            subst e1
            exact row_cells hx (by have := HM.out; omega)
          have cell := hcell j (by have := HM.out; omega)
          have lb := CAN.out.limbs.getD j
          have st := val_drop sds j
          have d1 := drop_lt CAN.out.limbs (by have := HM.out; omega) j
          subst hA
          generalize hd : lim sds j = d at *
          rw [← HY.out] at st
          rw [st] at d1
          have ST := hid st
          clear st hcell hd hb
          go_wp2
          go_round
          case rel => exact ⟨j, y * 65536 + d, by omega, by go_num, by omega, by omega, by go_num, by rw [ST.out]; omega⟩
          case measure => simp [intOf]
  · rw [decide_eq_false f]
    obtain rfl : hw = 0 := by rw [HWE.out, if_neg (fun t => f (FQ.out.2 t))]
    obtain rfl : lw = 0 := by rw [LWE.out, if_neg (fun t => f (FQ.out.2 t))]
    obtain rfl : fb = false := by rw [← FBE.out]; exact decide_eq_false (fun t => f (FQ.out.2 t))
    clear f FQ HWE LWE N1 FBE
    rintro e w2 ⟨rfl, b2⟩
    replace HB := hid (HB.out.below b2)
    clear b2
    go_wp2_with fail
    go_ret3
    exact ⟨rfl, HB.out.bel⟩

end Go.Proofs.YtjhekggeofalfaaDoor
