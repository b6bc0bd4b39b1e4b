/- Contract of noonmarkref02.Text. -/
import Derived.Test.YtjhekggeofalfaaDoorAliveW
import Derived.Test.YtjhekggeofalfaaDoorWildG
import Derived.Deep.DeepCutAuto
namespace Go.Proofs.YtjhekggeofalfaaDoor
open Go.RowKit

/-- The size of a number. -/
theorem NumIs.abs {w : World} {b s : Value} {z : Int} (h : NumIs w (.agg #[b, s]) z) : NumIs w (.agg #[.bool false, s]) (z.natAbs : Int) := by
  obtain ⟨s', ds, hv, hr, hc, hval⟩ := h
  injection hv with hv
  injection hv with hv
  injection hv with hv1 hv2
  injection hv2 with hv2
  subst hv2
  exact ⟨s, ds, by rw [decide_eq_false (by omega)], hr, hc, by omega⟩
/-- How far the text has come: m is left, l is written. -/
def TxtRel (T m : Nat) (l : List UInt8) : Prop := m * 10 ^ l.length ≤ T ∧ ((m = 0 ∧ (T = 0 ∧ l = [] ∨ 0 < T ∧ l = Lib.decDigits T)) ∨ (0 < m ∧ Lib.decDigits T = Lib.decDigits m ++ l))
theorem TxtRel.start (T : Nat) : TxtRel T T [] := by
  refine ⟨by simp, ?_⟩
  by_cases h : T = 0
  · exact .inl ⟨h, .inl ⟨h, rfl⟩⟩
  · exact .inr ⟨by omega, by simp⟩
theorem TxtRel.step {T m : Nat} {l : List UInt8} (h : TxtRel T m l) (hm : 0 < m) : TxtRel T (m / 10) (UInt8.ofNat (48 + m % 10) :: l) := by
  obtain ⟨h1, h2⟩ := h
  have h3 : Lib.decDigits T = Lib.decDigits m ++ l := by
    rcases h2 with ⟨h2, -⟩ | ⟨-, h2⟩
    · omega
    · exact h2
  have hp : 0 < 10 ^ l.length := Nat.pow_pos (by decide)
  refine ⟨?_, ?_⟩
  · rw [List.length_cons, Nat.pow_succ, Nat.mul_comm (10 ^ l.length), ← Nat.mul_assoc]
    have : m / 10 * 10 ≤ m := by omega
    exact Nat.le_trans (Nat.mul_le_mul_right _ this) h1
  · by_cases h10 : m < 10
    · refine .inl ⟨by omega, .inr ⟨?_, ?_⟩⟩
      · have : 1 * 1 ≤ m * 10 ^ l.length := Nat.mul_le_mul hm hp
        omega
      · rw [h3, dec_small h10, show m % 10 = m by omega]; rfl
    · refine .inr ⟨by omega, ?_⟩
      rw [h3, dec_step h10]; simp
theorem TxtRel.len {T m : Nat} {l : List UInt8} (h : TxtRel T m l) (hm : 0 < m) (hT : T < 10 ^ 46) : l.length < 46 := by
  refine Nat.lt_of_not_le fun hc => ?_
  have h1 : 10 ^ 46 ≤ 10 ^ l.length := Nat.pow_le_pow_right (by decide) hc
  have h2 : 1 * 10 ^ l.length ≤ m * 10 ^ l.length := Nat.mul_le_mul_right _ hm
  have := h.1
  omega
theorem TxtRel.last {T : Nat} {l : List UInt8} (h : TxtRel T 0 l) : T = 0 ∧ l = [] ∨ 0 < T ∧ l = Lib.decDigits T := by
  rcases h.2 with ⟨-, h⟩ | ⟨h, -⟩
  · exact h
  · omega
def strLen : Value → Nat
  | .string b => b.size
  | _ => 0
def TxtAt (w : World) (g : Nat) (L : List (Nat × Obj)) (t : Value) (T : Nat) (s : Value) (wr : World) : Prop :=
  ∃ (m : Nat) (l : List UInt8) (bb ss : Value), s = .string ⟨l.toArray⟩ ∧ Blks w wr ((g, Obj.cells #[bb, ss] 34 (0, 0)) :: L) ∧ NumIs wr (.agg #[bb, ss]) m ∧ NumIs wr t 10 ∧ TxtRel T m l
theorem NumIs.set2 {W : World} {v : Value} {z : Int} {g : Nat} {x0 y0 : Value} (h : NumIs W v z) (hg : W.heap[g]? = some (Obj.cells #[x0, y0] 34 (0, 0))) (x y : Value) :
    NumIs ((W.setCell ⟨g, 0, none⟩ x).setCell ⟨g, 1, none⟩ y) v z := by
  obtain ⟨s', ds, hv, hr, hc⟩ := h
  refine ⟨s', ds, hv, ?_, hc⟩
  have h6 : (W.setCell ⟨g, 0, none⟩ x).heap[g]? = some (Obj.cells (#[x0, y0].setIfInBounds 0 x) 34 (0, 0)) := by
    simp [World.setCell, Array.getElem?_modify, hg]
  exact (hr.setCell (p := ⟨g, 0, none⟩) hg (by decide) x).setCell (p := ⟨g, 1, none⟩) h6 (by decide) y
theorem byte_conv (W : World) (d : Int) (b : UInt8) (h : (b.toNat : Int) = 48 + d) :
    (convert 59 9 (.slice (some ⟨W.heap.size, 0, none⟩) 1 1)).run Tryd.prog (W.alloc (.cells #[.int .u8 (48 + d)] 5)) = .ok (.string ⟨#[b]⟩) (W.alloc (.cells #[.int .u8 (48 + d)] 5)) := by
  have h0 := heap_alloc_new W (.cells #[.int .u8 (48 + d)] 5)
  have := run_convert_bytes_back (P := Tryd.prog) (W.alloc (.cells #[.int .u8 (48 + d)] 5)) 59 9 5 ⟨W.heap.size, 0, none⟩ 1 [b] Tryd.underlying59 Tryd.underlying5 Tryd.underlying9 (fun j hj => by
    have : j = 0 := by simpa using hj
    subst this
    rw [Lib.add_plain, cell_of_row _ _ _ _ _ _ h0]
    simp [h])
  exact this
theorem small_le {m T : Nat} (h : Small (T : Int)) (h2 : m ≤ T) : Small (m : Int) := by unfold Small at *; omega
/-- Region 6: what each operation leaves. -/
def txφ (bb ss b6 s6 bt st : Value) (m : Nat) : Nat → Value → World → Prop
  | 0, v, _ => v = .agg #[bb, ss]
  | 1, v, _ => v = .agg #[b6, s6]
  | 2, v, _ => v = .agg #[bt, st]
  | 3, v, W => NumIs W v ((m : Int) / 10 * 10)
  | 4, v, W => NumIs W v (-((m : Int) / 10 * 10))
  | 5, v, W => NumIs W v ((m : Int) + -((m : Int) / 10 * 10))
  | 6, v, _ => v = .tuple #[.int .i64 ((m : Int) % 10), .bool true]
  | 7, v, _ => v = .tuple #[.int .i64 ((m : Int) % 10), .bool true]
  | 8, v, _ => v = .int .i64 ((m : Int) % 10)
  | 9, v, _ => v = .bool true
  | 10, v, _ => v = .int .i64 ((m : Int) % 10)
  | _, _, _ => True
theorem txφ_stable (bb ss b6 s6 bt st : Value) (m : Nat) : ∀ i v W W', Below W.heap.size W W' → txφ bb ss b6 s6 bt st m i v W → txφ bb ss b6 s6 bt st m i v W' := by
  intro i v W W' hb h
  match i, h with
  | 0, h => exact h
  | 1, h => exact h
  | 2, h => exact h
  | 3, h => exact NumIs.below h hb
  | 4, h => exact NumIs.below h hb
  | 5, h => exact NumIs.below h hb
  | 6, h => exact h
  | 7, h => exact h
  | 8, h => exact h
  | 9, h => exact h
  | 10, h => exact h
  | _ + 11, _ => trivial

set_option maxRecDepth 100000 in
set_option maxHeartbeats 4000000 in
theorem refText_any (v : Value) (z : Int) (w : World) (h : NumIs w v z) (hz : z.natAbs < 10 ^ 46) :
    Calls Tryd.prog 30 #[v] w fun e w' => e = .returned (.string ⟨(Lib.itoa z).toArray⟩) ∧ Below w.heap.size w w' := by
  have HN := hid h
  obtain ⟨s0, ds0, rfl, hr0, -, -⟩ := h
  obtain ⟨A0, c0, rfl, -, -, -⟩ := hr0
  generalize ds0.length = n0 at *
  have HAB := hid HN.out.abs
  have ST := hid (show Small (z.natAbs : Int) from small_of (by omega))
  have TZ := hid hz
  have FIN := hid (itoa_signs z)
  generalize hT : z.natAbs = T at *
  have NEG := hid (show z < 0 → 0 < T by omega)
  clear hT hz HN
  generalize Lib.itoa z = fin at *
  have B := hid ((Blks.nil w).add (.cells #[.bool (decide (z < 0)), .slice A0 n0 c0] 34))
  go_enter Tryd.func30, Tryd.ntmps30
  go_wp2_with fail
  refine (of_any 10 _ ⟨by decide, by decide⟩).mono ?_
  rintro e w2 ⟨v2, rfl, n2, b2⟩
  have N2 := n2
  obtain ⟨s2, d2, rfl, hr2, -⟩ := n2
  obtain ⟨A2, c2, rfl, -⟩ := hr2
  rw [show decide ((10 : Int) < 0) = false from rfl] at N2 ⊢
  replace N2 := hid N2
  have B2s := hid (B.out.below b2).bel.size
  replace B := hid ((B.out.below b2).add (.cells #[.bool false, .slice A2 d2.length c2] 34))
  replace N2 := hid (N2.out.alloc (.cells #[.bool false, .slice A2 d2.length c2] 34))
  replace HAB := hid (HAB.out.below B.out.bel)
  clear b2
  obtain ⟨p0, p1⟩ := B.out.c2 mem1
  go_wp2_with fail
  clear p0 p1
  replace B := hid (B.out.add (.cells #[.bool false, .slice A0 n0 c0] 34))
  rw [size1] at B
  replace N2 := hid (N2.out.alloc (.cells #[.bool false, .slice A0 n0 c0] 34))
  replace HAB := hid (HAB.out.alloc (.cells #[.bool false, .slice A0 n0 c0] 34))
  generalize hA2 : Value.slice A2 d2.length c2 = st at *
  go_loopw [4] (fun s wr => TxtAt w (w2.heap.size + 1) [(w2.heap.size, Obj.cells #[.bool false, st] 34 (0, 0)), (w.heap.size, Obj.cells #[.bool (decide (z < 0)), .slice A0 n0 c0] 34 (0, 0))] (.agg #[.bool false, st]) T s wr) (fun s _ => 46 - strLen s)
  case atStart => exact ⟨T, [], _, _, rfl, B.out, HAB.out, N2.out, TxtRel.start T⟩
  case round =>
    have hW2 : w.heap.size ≤ w2.heap.size := by have := B.out.bel.size; have := B.out.lt mem1; have h2 := B2s.out; omega
    obtain ⟨m, l, bb, ss, rfl, hB, hN, hTN, hR⟩ := hrel
    replace B := hid hB
    have N5 := hid hN
    replace N2 := hid hTN
    have R := hid hR
    obtain ⟨sA, sds, hv, hrr, hcan, hval⟩ := hN
    have LZ := hid (canon_len_zero hcan hval)
    obtain ⟨sB, sc, hsl, -⟩ := hrr
    subst hsl
    injection hv with hv
    injection hv with hv
    injection hv with hv1 hv2
    injection hv2 with hv2
    subst hv1 hv2
    clear hB hTN hR hcan hval HAB hA2
    generalize sds.length = k at *
    by_cases hm : 0 < m
    · have hk : (0 : Int) < (k : Int) := by
        have : ¬ k = 0 := fun e => by have := LZ.out.1 e; omega
        omega
      have hl : l.length < 46 := R.out.len hm TZ.out
      have MT := hid (show m ≤ T by
        have h1 := R.out.1
        have h2 : m * 1 ≤ m * 10 ^ l.length := Nat.mul_le_mul_left _ (Nat.pow_pos (by decide))
        omega)
      have SMm := hid (small_le ST.out MT.out)
      have SMq := hid (show Small ((m : Int) / 10) by have := SMm.out; unfold Small at *; omega)
      have SMp := hid (show Small ((m : Int) / 10 * 10) by have := SMm.out; unfold Small at *; omega)
      have SMr := hid (show Small ((m : Int) + -((m : Int) / 10 * 10)) by have := SMm.out; unfold Small at *; omega)
      obtain ⟨c0, c1⟩ := B.out.c2 mem0
      obtain ⟨t0, t1⟩ := B.out.c2 mem1
      go_wp2_with fail
      clear c0 c1 t0 t1
      refine (div_any _ _ m 10 false _ N5.out N2.out SMm.out (small_of (by decide)) (by decide)).mono ?_
      rw [show divOf (m : Int) 10 false = (m : Int) / 10 from rfl]
      rintro e w7 ⟨v7, rfl, n7, b7⟩
      have N7 := hid n7
      obtain ⟨s7, d7, rfl, hr7, -⟩ := n7
      obtain ⟨A7, c7, rfl, -⟩ := hr7
      generalize hb7 : decide ((m : Int) / 10 < 0) = pb7 at *
      clear hb7
      replace B := hid ((B.out.below b7).add (.cells #[.bool pb7, .slice A7 d7.length c7] 34))
      replace N7 := hid (N7.out.alloc (.cells #[.bool pb7, .slice A7 d7.length c7] 34))
      replace N5 := hid ((N5.out.below b7).alloc (.cells #[.bool pb7, .slice A7 d7.length c7] 34))
      replace N2 := hid ((N2.out.below b7).alloc (.cells #[.bool pb7, .slice A7 d7.length c7] 34))
      clear b7 LZ hk
      go_upto_region 6 with fail
      generalize hbb : Value.bool (decide ((m : Int) < 0)) = bb at *
      generalize Value.slice sB k sc = ss at *
      generalize d7.length = n7 at *
      clear hbb
      refine wp_world (fun W6 => Hid (Blks w W6 [(w7.heap.size, Obj.cells #[.bool pb7, .slice A7 n7 c7] 34 (0, 0)), (w2.heap.size + 1, Obj.cells #[bb, ss] 34 (0, 0)), (w2.heap.size, Obj.cells #[.bool false, st] 34 (0, 0)), (w.heap.size, Obj.cells #[.bool (decide (z < 0)), .slice A0 n0 c0] 34 (0, 0))]) ∧ Hid (NumIs W6 (.agg #[bb, ss]) m) ∧ Hid (NumIs W6 (.agg #[.bool pb7, .slice A7 n7 c7]) ((m : Int) / 10)) ∧ Hid (NumIs W6 (.agg #[.bool false, st]) 10)) ⟨B, N5, N7, N2⟩ ?_
      clear B N5 N7 N2
      intro W6 hw6
      obtain ⟨B, N5, N7, N2⟩ := hw6
      have BW := hid B.out.bel
      replace B := hid (show Blks W6 W6 [(w7.heap.size, Obj.cells #[.bool pb7, .slice A7 n7 c7] 34 (0, 0)), (w2.heap.size + 1, Obj.cells #[bb, ss] 34 (0, 0)), (w2.heap.size, Obj.cells #[.bool false, st] 34 (0, 0)), (w.heap.size, Obj.cells #[.bool (decide (z < 0)), .slice A0 n0 c0] 34 (0, 0))] from ⟨Below.refl _ _, B.out.2⟩)
      refine wp_region_each W6 [(w7.heap.size, Obj.cells #[.bool pb7, .slice A7 n7 c7] 34 (0, 0)), (w2.heap.size + 1, Obj.cells #[bb, ss] 34 (0, 0)), (w2.heap.size, Obj.cells #[.bool false, st] 34 (0, 0)), (w.heap.size, Obj.cells #[.bool (decide (z < 0)), .slice A0 n0 c0] 34 (0, 0))] 11 (txφ bb ss (.bool pb7) (.slice A7 n7 c7) (.bool false) st m) B.out _ rfl (by kernel_rfl) (by kernel_rfl) (txφ_stable bb ss (.bool pb7) (.slice A7 n7 c7) (.bool false) st m) ?_ ?_
      · simp only [List.take_succ_cons, List.take_zero]
        refine ⟨fun x W K hB hd hK => ?_, fun x W K hB hd hK => ?_, fun x W K hB hd hK => ?_, fun x W K hB hd hK => ?_, fun x W K hB hd hK => ?_, fun x W K hB hd hK => ?_, fun x W K hB hd hK => ?_, fun x W K hB hd hK => ?_, fun x W K hB hd hK => ?_, fun x W K hB hd hK => ?_, fun x W K hB hd hK => ?_, trivial⟩
        · simp only [puts, Act.put, List.setIfInBounds_toArray, List.set_cons_zero, List.set_cons_succ, Nat.reduceAdd, Nat.zero_add] at hK ⊢
          clear hd
          generalize x 0 = x0 at *
          generalize x 1 = x1 at *
          generalize x 2 = x2 at *
          generalize x 3 = x3 at *
          generalize x 4 = x4 at *
          generalize x 5 = x5 at *
          generalize x 6 = x6 at *
          generalize x 7 = x7 at *
          generalize x 8 = x8 at *
          generalize x 9 = x9 at *
          generalize x 10 = x10 at *
          obtain ⟨c0, c1⟩ := hB.c2 mem1
          go_simp
          exact hK _ _ (Below.refl _ _) rfl
        · simp only [puts, Act.put, List.setIfInBounds_toArray, List.set_cons_zero, List.set_cons_succ, Nat.reduceAdd, Nat.zero_add] at hK ⊢
          clear hd
          generalize x 0 = x0 at *
          generalize x 1 = x1 at *
          generalize x 2 = x2 at *
          generalize x 3 = x3 at *
          generalize x 4 = x4 at *
          generalize x 5 = x5 at *
          generalize x 6 = x6 at *
          generalize x 7 = x7 at *
          generalize x 8 = x8 at *
          generalize x 9 = x9 at *
          generalize x 10 = x10 at *
          obtain ⟨c0, c1⟩ := hB.c2 mem0
          go_simp
          exact hK _ _ (Below.refl _ _) rfl
        · simp only [puts, Act.put, List.setIfInBounds_toArray, List.set_cons_zero, List.set_cons_succ, Nat.reduceAdd, Nat.zero_add] at hK ⊢
          clear hd
          generalize x 0 = x0 at *
          generalize x 1 = x1 at *
          generalize x 2 = x2 at *
          generalize x 3 = x3 at *
          generalize x 4 = x4 at *
          generalize x 5 = x5 at *
          generalize x 6 = x6 at *
          generalize x 7 = x7 at *
          generalize x 8 = x8 at *
          generalize x 9 = x9 at *
          generalize x 10 = x10 at *
          obtain ⟨c0, c1⟩ := hB.c2 mem2
          go_simp
          exact hK _ _ (Below.refl _ _) rfl
        · simp only [puts, Act.put, List.setIfInBounds_toArray, List.set_cons_zero, List.set_cons_succ, Nat.reduceAdd, Nat.zero_add] at hK ⊢
          have d1 : x 1 = .agg #[.bool pb7, .slice A7 n7 c7] := hd 1 (by decide)
          have d2 : x 2 = .agg #[.bool false, st] := hd 2 (by decide)
          clear hd
          generalize x 0 = x0 at *
          generalize x 1 = x1 at *
          generalize x 2 = x2 at *
          generalize x 3 = x3 at *
          generalize x 4 = x4 at *
          generalize x 5 = x5 at *
          generalize x 6 = x6 at *
          generalize x 7 = x7 at *
          generalize x 8 = x8 at *
          generalize x 9 = x9 at *
          generalize x 10 = x10 at *
          subst d1
          subst d2
          go_simp
          refine (mul_any _ _ ((m : Int) / 10) 10 _ (N7.out.below hB.bel) (N2.out.below hB.bel) SMq.out (small_of (by decide))).mono ?_
          rintro e w2 ⟨v2, rfl, n2, b2⟩
          exact hK v2 w2 b2 n2
        · simp only [puts, Act.put, List.setIfInBounds_toArray, List.set_cons_zero, List.set_cons_succ, Nat.reduceAdd, Nat.zero_add] at hK ⊢
          have d3 : NumIs W (x 3) ((m : Int) / 10 * 10) := hd 3 (by decide)
          clear hd
          generalize x 0 = x0 at *
          generalize x 1 = x1 at *
          generalize x 2 = x2 at *
          generalize x 3 = x3 at *
          generalize x 4 = x4 at *
          generalize x 5 = x5 at *
          generalize x 6 = x6 at *
          generalize x 7 = x7 at *
          generalize x 8 = x8 at *
          generalize x 9 = x9 at *
          generalize x 10 = x10 at *
          have D3 := hid d3
          clear d3
          go_simp
          refine (neg_any _ _ _ D3.out).mono ?_
          rintro e w2 ⟨v2, rfl, n2, b2⟩
          exact hK v2 w2 b2 n2
        · simp only [puts, Act.put, List.setIfInBounds_toArray, List.set_cons_zero, List.set_cons_succ, Nat.reduceAdd, Nat.zero_add] at hK ⊢
          have d0 : x 0 = .agg #[bb, ss] := hd 0 (by decide)
          have d4 : NumIs W (x 4) (-((m : Int) / 10 * 10)) := hd 4 (by decide)
          clear hd
          generalize x 0 = x0 at *
          generalize x 1 = x1 at *
          generalize x 2 = x2 at *
          generalize x 3 = x3 at *
          generalize x 4 = x4 at *
          generalize x 5 = x5 at *
          generalize x 6 = x6 at *
          generalize x 7 = x7 at *
          generalize x 8 = x8 at *
          generalize x 9 = x9 at *
          generalize x 10 = x10 at *
          subst d0
          have D4 := hid d4
          clear d4
          go_simp
          refine (add_any _ _ (m : Int) (-((m : Int) / 10 * 10)) _ (N5.out.below hB.bel) D4.out SMm.out (small_neg SMp.out)).mono ?_
          rintro e w2 ⟨v2, rfl, n2, b2⟩
          exact hK v2 w2 b2 n2
        · simp only [puts, Act.put, List.setIfInBounds_toArray, List.set_cons_zero, List.set_cons_succ, Nat.reduceAdd, Nat.zero_add] at hK ⊢
          have d5 : NumIs W (x 5) ((m : Int) + -((m : Int) / 10 * 10)) := hd 5 (by decide)
          clear hd
          generalize x 0 = x0 at *
          generalize x 1 = x1 at *
          generalize x 2 = x2 at *
          generalize x 3 = x3 at *
          generalize x 4 = x4 at *
          generalize x 5 = x5 at *
          generalize x 6 = x6 at *
          generalize x 7 = x7 at *
          generalize x 8 = x8 at *
          generalize x 9 = x9 at *
          generalize x 10 = x10 at *
          have D5 := hid d5
          clear d5
          go_simp
          refine (long_any _ _ _ D5.out SMr.out).mono ?_
          rw [show (m : Int) + -((m : Int) / 10 * 10) = (m : Int) % 10 by omega, longV_yes ⟨by omega, by omega⟩, decide_eq_true (show Fits ((m : Int) % 10) from ⟨by omega, by omega⟩)]
          rintro e w9 ⟨rfl, b9⟩
          exact hK _ w9 b9 rfl
        · simp only [puts, Act.put, List.setIfInBounds_toArray, List.set_cons_zero, List.set_cons_succ, Nat.reduceAdd, Nat.zero_add] at hK ⊢
          have d6 : x 6 = .tuple #[.int .i64 ((m : Int) % 10), .bool true] := hd 6 (by decide)
          clear hd
          generalize x 0 = x0 at *
          generalize x 1 = x1 at *
          generalize x 2 = x2 at *
          generalize x 3 = x3 at *
          generalize x 4 = x4 at *
          generalize x 5 = x5 at *
          generalize x 6 = x6 at *
          generalize x 7 = x7 at *
          generalize x 8 = x8 at *
          generalize x 9 = x9 at *
          generalize x 10 = x10 at *
          subst d6
          go_simp
          exact hK _ _ (Below.refl _ _) rfl
        · simp only [puts, Act.put, List.setIfInBounds_toArray, List.set_cons_zero, List.set_cons_succ, Nat.reduceAdd, Nat.zero_add] at hK ⊢
          have d7 : x 7 = .tuple #[.int .i64 ((m : Int) % 10), .bool true] := hd 7 (by decide)
          clear hd
          generalize x 0 = x0 at *
          generalize x 1 = x1 at *
          generalize x 2 = x2 at *
          generalize x 3 = x3 at *
          generalize x 4 = x4 at *
          generalize x 5 = x5 at *
          generalize x 6 = x6 at *
          generalize x 7 = x7 at *
          generalize x 8 = x8 at *
          generalize x 9 = x9 at *
          generalize x 10 = x10 at *
          subst d7
          go_simp
          exact hK _ _ (Below.refl _ _) rfl
        · simp only [puts, Act.put, List.setIfInBounds_toArray, List.set_cons_zero, List.set_cons_succ, Nat.reduceAdd, Nat.zero_add] at hK ⊢
          have d7 : x 7 = .tuple #[.int .i64 ((m : Int) % 10), .bool true] := hd 7 (by decide)
          clear hd
          generalize x 0 = x0 at *
          generalize x 1 = x1 at *
          generalize x 2 = x2 at *
          generalize x 3 = x3 at *
          generalize x 4 = x4 at *
          generalize x 5 = x5 at *
          generalize x 6 = x6 at *
          generalize x 7 = x7 at *
          generalize x 8 = x8 at *
          generalize x 9 = x9 at *
          generalize x 10 = x10 at *
          subst d7
          go_simp
          exact hK _ _ (Below.refl _ _) rfl
        · simp only [puts, Act.put, List.setIfInBounds_toArray, List.set_cons_zero, List.set_cons_succ, Nat.reduceAdd, Nat.zero_add] at hK ⊢
          have d8 : x 8 = .int .i64 ((m : Int) % 10) := hd 8 (by decide)
          clear hd
          generalize x 0 = x0 at *
          generalize x 1 = x1 at *
          generalize x 2 = x2 at *
          generalize x 3 = x3 at *
          generalize x 4 = x4 at *
          generalize x 5 = x5 at *
          generalize x 6 = x6 at *
          generalize x 7 = x7 at *
          generalize x 8 = x8 at *
          generalize x 9 = x9 at *
          generalize x 10 = x10 at *
          subst d8
          go_simp
          exact hK _ _ (Below.refl _ _) rfl
      · intro x W hB hd
        have d9 : x 9 = .bool true := hd 9 (by decide)
        have d10 : x 10 = .int .i64 ((m : Int) % 10) := hd 10 (by decide)
        clear hd
        simp only [List.take_succ_cons, List.take_zero]
        simp only [puts, Act.put, List.setIfInBounds_toArray, List.set_cons_zero, List.set_cons_succ, Nat.reduceAdd, Nat.zero_add]
        generalize x 0 = x0 at *
        generalize x 1 = x1 at *
        generalize x 2 = x2 at *
        generalize x 3 = x3 at *
        generalize x 4 = x4 at *
        generalize x 5 = x5 at *
        generalize x 6 = x6 at *
        generalize x 7 = x7 at *
        generalize x 8 = x8 at *
        generalize x 9 = x9 at *
        generalize x 10 = x10 at *
        subst d9
        subst d10
        go_simp
        have RS := hid (R.out.step hm)
        have B8 := hid (show ((UInt8.ofNat (48 + m % 10)).toNat : Int) = 48 + (m : Int) % 10 by rw [ofNat_dig (by omega)]; omega)
        have e0 : 0 ≤ (m : Int) % 10 := by omega
        have e1 : (m : Int) % 10 ≤ 9 := by omega
        generalize UInt8.ofNat (48 + m % 10) = b8 at *
        generalize (m : Int) % 10 = dI at *
        have CV := byte_conv W dI b8 B8.out
        have BX := hid (hB.keep (.cells #[.int .u8 (48 + dI)] 5))
        replace N7 := hid ((N7.out.below hB.bel).alloc (.cells #[.int .u8 (48 + dI)] 5))
        replace N2 := hid ((N2.out.below hB.bel).alloc (.cells #[.int .u8 (48 + dI)] 5))
        have BB := hid (hB.bel)
        clear R N5 B hB
        obtain ⟨q0, q1⟩ := BX.out.c2 mem0
        have f0 := BX.out.fz mem1 0
        have f1 := BX.out.fz mem1 1
        obtain ⟨k0, k1⟩ := BX.out.c2 mem1
        go_wp2_with fail
        clear q0 q1 f0 f1 k0 k1 CV
        go_roundw
        case rel =>
          have B9 := hid (show Blks w (W.alloc (.cells #[.int .u8 (48 + dI)] 5)) ((w2.heap.size + 1, Obj.cells #[bb, ss] 34 (0, 0)) :: [(w2.heap.size, Obj.cells #[.bool false, st] 34 (0, 0)), (w.heap.size, Obj.cells #[.bool (decide (z < 0)), .slice A0 n0 c0] 34 (0, 0))]) from ⟨BW.out.trans (BX.out.bel.mono BW.out.size), fun x hx => BX.out.2 x (List.mem_cons_of_mem _ hx)⟩)
          exact ⟨m / 10, b8 :: l, _, _, congrArg Value.string (ba_app [b8] l), Blks.set2 B9.out (by have := hW2; omega) (by simp; omega) _ _, NumIs.set2 N7.out (BX.out.at_ mem1) _ _, NumIs.set2 N2.out (BX.out.at_ mem1) _ _, RS.out⟩
        case measure => simp [strLen, ByteArray.size]; omega
    · obtain rfl : m = 0 := by omega
      have FI := hid R.out.last
      have hk0 : k = 0 := LZ.out.2 rfl
      subst hk0
      obtain ⟨c0, c1⟩ := B.out.c2 mem0
      obtain ⟨p0, p1⟩ := B.out.c2 mem2
      clear LZ R
      rcases FI.out with ⟨t0, t1⟩ | ⟨t0, t1⟩
      · subst t1
        have F := hid (show fin = [48] by
          rw [FIN.out, t0, if_neg (fun h => by have := NEG.out h; omega)]; exact dec_small (by decide))
        go_wp2_with fail
        go_ret
        exact ⟨by rw [F.out]; rfl, B.out.bel⟩
      · have hE : (⟨l.toArray⟩ : ByteArray).toList.isEmpty = false := by
          rw [Lib.toList_data]
          have := dec_ne T
          rw [← t1] at this
          cases l with
          | nil => exact absurd rfl this
          | cons => rfl
        have HT1 := hid t1
        have hl : l.length ≤ 46 := by
          rw [t1]
          exact (dec_split 45 1 T (by decide) TZ.out).1
        clear t1 FI
        have hSz : (⟨l.toArray⟩ : ByteArray).size ≤ 46 := hl
        generalize hSd : (⟨l.toArray⟩ : ByteArray) = S at *
        have HSD := hid hSd
        clear hSd hl
        by_cases hz : z < 0
        · have F := hid (show fin = 45 :: l by rw [FIN.out, if_pos hz, HT1.out])
          go_wp2_with fail
          go_ret
          exact ⟨by rw [F.out, ← HSD.out]; exact congrArg (fun b => Ending.returned (.string b)) (ba_app [45] l), B.out.bel⟩
        · have F := hid (show fin = l by rw [FIN.out, if_neg hz, HT1.out])
          go_wp2_with fail
          go_ret
          exact ⟨by rw [F.out, HSD.out]; rfl, B.out.bel⟩

end Go.Proofs.YtjhekggeofalfaaDoor
