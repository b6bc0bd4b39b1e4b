/- noonmarklaw02.WideTexts returns true at every input and writes nothing that was there. -/
import Derived.Test.YtjhekggeofalfaaDoorRParse
namespace Go.Proofs.YtjhekggeofalfaaDoor
open Go.RowKit

theorem pres_itoa {a : Int} (h : Fits2 a) : pres (Lib.itoa a) = (a, true) := by
  unfold pres; rw [pval_itoa]; exact if_pos h
theorem itoa_len {a : Int} (h : Fits2 a) : (Lib.itoa a).length ≤ 100 := by
  rw [itoa_signs]
  have := (dec_split 45 1 a.natAbs (by decide) (by obtain ⟨h1, h2⟩ := h; omega)).1
  split
  · rw [List.length_cons]; omega
  · omega
/-- What the program's Parse and the references' say of one text. -/
theorem parse_ways (l : List UInt8) : (pres l = (0, false) ∧ (rres l).2 = false) ∨ (pres l = (0, false) ∧ (rres l).2 = true ∧ ¬ Fits2 (rres l).1) ∨ (∃ z, pres l = (z, true) ∧ rres l = (z, true) ∧ Fits2 z ∧ Lib.itoa z = l) := by
  unfold pres rres
  cases hp : pval l with
  | none => exact .inl ⟨rfl, rfl⟩
  | some z =>
    have hl := pval_some hp
    by_cases h40 : (pdig l).length ≤ 40
    · by_cases f : Fits2 z
      · exact .inr (.inr ⟨z, if_pos f, if_pos h40, f, hl.symm⟩)
      · refine .inr (.inl ⟨if_neg f, ?_, ?_⟩)
        · show (if (pdig l).length ≤ 40 then (z, true) else (0, false)).2 = true
          rw [if_pos h40]
        · show ¬ Fits2 (if (pdig l).length ≤ 40 then (z, true) else (0, false)).1
          rw [if_pos h40]; exact f
    · refine .inl ⟨if_neg ?_, ?_⟩
      · have hv := pval_parts l
        rw [hp] at hv
        by_cases hc : Plain10 (pdig l) ∧ (pneg l = true → (pdig l).head? ≠ some 48)
        · rw [if_pos hc] at hv
          injection hv with hv
          have hg := dv_great hc.1 (by omega)
          rintro ⟨f1, f2⟩
          subst hv
          by_cases hn : pneg l = true
          · rw [if_pos hn] at f1; omega
          · rw [if_neg hn] at f2; omega
        · rw [if_neg hc] at hv; cases hv
      · show (if (pdig l).length ≤ 40 then (z, true) else (0, false)).2 = false
        rw [if_neg h40]
theorem rres_mid (l : List UInt8) : Mid150 (rres l).1 := by
  unfold rres
  cases hp : pval l with
  | none => exact (show Mid150 0 by unfold Mid150; decide)
  | some z =>
    show Mid150 (if (pdig l).length ≤ 40 then (z, true) else (0, false)).1
    by_cases h40 : (pdig l).length ≤ 40
    · rw [if_pos h40]
      have hv := pval_parts l
      rw [hp] at hv
      by_cases hc : Plain10 (pdig l) ∧ (pneg l = true → (pdig l).head? ≠ some 48)
      · rw [if_pos hc] at hv
        injection hv with hv
        have := dv40 hc.1.2.1 h40
        subst hv
        show Mid150 (if pneg l = true then -(dv (pdig l) : Int) else (dv (pdig l) : Int))
        unfold Mid150
        split <;> omega
      · rw [if_neg hc] at hv; cases hv
    · rw [if_neg h40]; exact (show Mid150 0 by unfold Mid150; decide)
theorem Fits2.mid {z : Int} (h : Fits2 z) : Mid150 z := by obtain ⟨h1, h2⟩ := h; unfold Mid150; omega
/-- Region 14: what each operation leaves. -/
def teφ (z : Int) (g : Nat) (ss : Value) (S : ByteArray) : Nat → Value → World → Prop
  | 0, v, _ => v = wideV z
  | 1, v, W => NumIs W v z
  | 2, v, _ => v = .bool (decide (z < 0))
  | 3, v, _ => v = .pointer (some ⟨g, 0, none⟩)
  | 4, v, _ => v = .bool (decide (z < 0))
  | 5, v, _ => v = .bool true
  | 6, v, _ => v = .bool true
  | 7, v, _ => v = wideV z
  | 8, v, W => NumIs W v z
  | 9, v, _ => v = .agg #[.bool (decide (z < 0)), ss]
  | 10, v, _ => v = .int .i64 0
  | 11, v, _ => v = .bool true
  | 12, v, _ => v = .bool true
  | 13, v, _ => v = .bool true
  | 14, v, _ => v = wideV z
  | 15, v, _ => v = .string S
  | 16, v, _ => v = .string S
  | 17, v, _ => v = .bool true
  | 18, v, _ => v = .bool true
  | _, _, _ => True
theorem teφ_stable (z : Int) (g : Nat) (ss : Value) (S : ByteArray) : ∀ i v W W', Below W.heap.size W W' → teφ z g ss S i v W → teφ z g ss S i v W' := by
  intro i v W W' hb h
  match i, h with
  | 0, h => exact h
  | 1, h => exact NumIs.below h hb
  | 2, h => exact h
  | 3, h => exact h
  | 4, h => exact h
  | 5, h => exact h
  | 6, h => exact h
  | 7, h => exact h
  | 8, h => exact NumIs.below h hb
  | 9, h => exact h
  | 10, h => exact h
  | 11, h => exact h
  | 12, h => exact h
  | 13, h => exact h
  | 14, h => exact h
  | 15, h => exact h
  | 16, h => exact h
  | 17, h => exact h
  | 18, h => exact h
  | _ + 19, _ => trivial

set_option maxRecDepth 100000 in
set_option maxHeartbeats 4000000 in
theorem wideTexts_any (a : Int) (S : ByteArray) (w : World) (htab : PowTab w) (ha : Fits2 a) (hs : S.size ≤ maxLen) :
    Calls Tryd.prog 5 #[wideV a, .string S] w fun e w' => e = .returned (.bool true) ∧ Below w.heap.size w w' := by
  obtain ⟨⟨l⟩⟩ := S
  have hs' : l.length ≤ maxLen := hs
  have T := hid (fun W (hW : Below w.heap.size w W) => PowTab.below htab hW)
  have HA := hid ha
  have C1 := hid (fun W (h : PowTab W) => wideText_any a W ha h)
  have C2 := hid (fun W => wideParse_any (Lib.itoa a) W (by have := itoa_len ha; omega))
  rw [pres_itoa ha] at C2
  have C3 := hid (fun (h : l.length ≤ 200) W => wideParse_any l W (by omega))
  have C4 := hid (fun (h : l.length ≤ 200) W => refParse_any l W (by omega))
  have C5 := hid (fun (_ : True) => rres_mid l)
  have C6 := hid (fun W => num_any a W ha)
  have C7 := hid (fun v W (h : NumIs W v a) => refText_any v a W h (by obtain ⟨h1, h2⟩ := ha; omega))
  have PW := hid (parse_ways l)
  have hl : (l.length : Int) ≤ 9223372036854775807 := by unfold maxLen at hs'; omega
  have hS : (⟨l.toArray⟩ : ByteArray).size = l.length := rfl
  clear htab ha hs hs'
  show Calls Tryd.prog 5 #[wideV a, .string ⟨l.toArray⟩] w _
  generalize hSd : (⟨l.toArray⟩ : ByteArray) = S at *
  generalize hTd : (⟨(Lib.itoa a).toArray⟩ : ByteArray) = TA at *
  have HSD := hid hSd
  clear hSd hTd
  unfold wideV at C1 C2 C3 C6 ⊢
  have B := hid ((Blks.nil w).add (.cells #[.int .i64 (a / 18446744073709551616), .int .u64 (a % 18446744073709551616)] 24))
  go_enter Tryd.func5, Tryd.ntmps5
  go_wp2_with fail
  refine (alive_any _ (T.out _ B.out.bel)).mono ?_
  rintro e w1 ⟨rfl, b1⟩
  replace B := hid (B.out.below b1)
  clear b1
  by_cases h200 : (200 : Int) < (l.length : Int)
  · clear C1 C2 C3 C4 C5 C6 C7 PW T HSD
    go_wp2_with fail
    go_ret
    exact ⟨rfl, B.out.bel⟩
  · have h2 : l.length ≤ 200 := by omega
    replace C3 := hid (C3.out h2)
    replace C4 := hid (C4.out h2)
    clear h2
    obtain ⟨a0, a1⟩ := B.out.c2 mem0
    go_wp2_with fail
    clear a0 a1
    refine (C1.out _ (T.out _ B.out.bel)).mono ?_
    rintro e w2 ⟨rfl, b1⟩
    replace B := hid (B.out.below b1)
    clear b1 C1
    go_wp2_with fail
    refine (C2.out _).mono ?_
    rintro e w3 ⟨rfl, b1⟩
    replace B := hid ((B.out.below b1).add (.cells #[.int .i64 (a / 18446744073709551616), .int .u64 (a % 18446744073709551616)] 24))
    clear b1 C2
    go_wp2_with fail
    refine (C3.out _).mono ?_
    generalize hpr : pres l = PR at *
    obtain ⟨pz, pok⟩ := PR
    have HPR := hid hpr
    clear hpr
    rintro e w4 ⟨rfl, b1⟩
    replace B := hid ((B.out.below b1).add (.cells #[.int .i64 (pz / 18446744073709551616), .int .u64 (pz % 18446744073709551616)] 24))
    clear b1 C3
    go_wp2_with fail
    refine (C4.out _).mono ?_
    generalize hrr : rres l = RR at *
    obtain ⟨rz, rok⟩ := RR
    have HRR := hid hrr
    clear hrr
    rintro e w5 ⟨v5, rfl, n5, b1⟩
    have N5 := hid n5
    obtain ⟨s5, d5, rfl, hr5, -⟩ := n5
    obtain ⟨A5, c5, rfl, -⟩ := hr5
    replace B := hid ((B.out.below b1).add (.cells #[.bool (decide (rz < 0)), .slice A5 d5.length c5] 34))
    replace N5 := hid (N5.out.alloc (.cells #[.bool (decide (rz < 0)), .slice A5 d5.length c5] 34))
    clear b1 C4
    generalize d5.length = n5 at *
    go_wp2_with fail
    have MID := hid (fun (_ : True) => show Mid150 rz from C5.out trivial)
    clear C5 HPR HRR
    rcases PW.out with ⟨e1, e2⟩ | ⟨e1, e2, e3⟩ | ⟨z, e1, e2, e3, e4⟩

    · obtain ⟨rfl, rfl⟩ : pz = 0 ∧ pok = false := by injection e1 with q1 q2; exact ⟨q1, q2⟩
      obtain rfl : rok = false := e2
      clear e1 PW
      refine (words_any _ rz _ N5.out (MID.out trivial)).mono ?_
      generalize hiW rz = hw
      generalize loW rz = lw
      generalize decide (Fits2 rz) = fb
      rintro e w6 ⟨rfl, b1⟩
      replace B := hid (B.out.below b1)
      clear b1 N5 MID
      obtain ⟨a0, a1⟩ := B.out.c2 mem3
      go_wp2_with fail
      clear a0 a1
      refine (C6.out _).mono ?_
      rintro e w7 ⟨v7, rfl, n7, b1⟩
      replace B := hid (B.out.below b1)
      have N7 := hid n7
      clear b1 n7 C6
      go_wp2_with fail
      refine (C7.out v7 _ N7.out).mono ?_
      rintro e w8 ⟨rfl, b1⟩
      replace B := hid (B.out.below b1)
      clear b1 C7 N7
      obtain ⟨a0, a1⟩ := B.out.c2 mem3
      obtain ⟨t0, t1⟩ := B.out.c2 mem2
      obtain ⟨p0, p1⟩ := B.out.c2 mem1
      go_wp2_with fail
      go_ret
      exact ⟨rfl, B.out.bel⟩
    · obtain ⟨rfl, rfl⟩ : pz = 0 ∧ pok = false := by injection e1 with q1 q2; exact ⟨q1, q2⟩
      obtain rfl : rok = true := e2
      have F2 := hid (decide_eq_false (show ¬ Fits2 rz from e3))
      clear e1 e3 PW
      refine (words_any _ rz _ N5.out (MID.out trivial)).mono ?_
      rw [F2.out]
      generalize hiW rz = hw
      generalize loW rz = lw
      rintro e w6 ⟨rfl, b1⟩
      replace B := hid (B.out.below b1)
      clear b1 N5 MID
      obtain ⟨a0, a1⟩ := B.out.c2 mem3
      go_wp2_with fail
      clear a0 a1
      refine (C6.out _).mono ?_
      rintro e w7 ⟨v7, rfl, n7, b1⟩
      replace B := hid (B.out.below b1)
      have N7 := hid n7
      clear b1 n7 C6
      go_wp2_with fail
      refine (C7.out v7 _ N7.out).mono ?_
      rintro e w8 ⟨rfl, b1⟩
      replace B := hid (B.out.below b1)
      clear b1 C7 N7
      obtain ⟨a0, a1⟩ := B.out.c2 mem3
      obtain ⟨t0, t1⟩ := B.out.c2 mem2
      obtain ⟨p0, p1⟩ := B.out.c2 mem1
      go_wp2_with fail
      go_ret
      exact ⟨rfl, B.out.bel⟩
    · obtain ⟨rfl, rfl⟩ : pz = z ∧ pok = true := by injection e1 with q1 q2; exact ⟨q1, q2⟩
      obtain ⟨rfl, rfl⟩ : rz = pz ∧ rok = true := by injection e2 with q1 q2; exact ⟨q1, q2⟩
      have FZ := hid e3
      have TZ := hid e4
      have F2 := hid (decide_eq_true e3)
      clear e1 e2 e3 e4 PW
      refine (words_any _ rz _ N5.out (MID.out trivial)).mono ?_
      rw [F2.out]
      generalize hiW rz = hw
      generalize loW rz = lw
      rintro e w6 ⟨rfl, b1⟩
      replace B := hid (B.out.below b1)
      replace N5 := hid (N5.out.below b1)
      clear b1
      obtain ⟨a0, a1⟩ := B.out.c2 mem3
      go_wp2_with fail
      clear a0 a1
      refine (C6.out _).mono ?_
      rintro e w7 ⟨v7, rfl, n7, b1⟩
      replace B := hid (B.out.below b1)
      replace N5 := hid (N5.out.below b1)
      have N7 := hid n7
      clear b1 n7 C6
      go_wp2_with fail
      refine (C7.out v7 _ N7.out).mono ?_
      rintro e w8 ⟨rfl, b1⟩
      replace B := hid (B.out.below b1)
      replace N5 := hid (N5.out.below b1)
      clear b1 C7 N7
      obtain ⟨a0, a1⟩ := B.out.c2 mem3
      obtain ⟨t0, t1⟩ := B.out.c2 mem2
      go_upto_region 14 with fail
      clear a0 a1 t0 t1
      have TX := hid (fun W (hW : Below w.heap.size w W) => wideText_any rz W FZ.out (T.out W hW))
      rw [TZ.out, HSD.out] at TX
      generalize Value.slice A5 n5 c5 = ss at *
      have BW := hid B.out.bel
      replace B := hid (show Blks w8 w8 [(w5.heap.size, Obj.cells #[.bool (decide (rz < 0)), ss] 34 (0, 0)), (w4.heap.size, Obj.cells #[.int .i64 (rz / 18446744073709551616), .int .u64 (rz % 18446744073709551616)] 24 (0, 0)), (w3.heap.size, Obj.cells #[.int .i64 (a / 18446744073709551616), .int .u64 (a % 18446744073709551616)] 24 (0, 0)), (w.heap.size, Obj.cells #[.int .i64 (a / 18446744073709551616), .int .u64 (a % 18446744073709551616)] 24 (0, 0))] from ⟨Below.refl _ _, B.out.2⟩)
      refine wp_region_guard w8 [(w5.heap.size, Obj.cells #[.bool (decide (rz < 0)), ss] 34 (0, 0)), (w4.heap.size, Obj.cells #[.int .i64 (rz / 18446744073709551616), .int .u64 (rz % 18446744073709551616)] 24 (0, 0)), (w3.heap.size, Obj.cells #[.int .i64 (a / 18446744073709551616), .int .u64 (a % 18446744073709551616)] 24 (0, 0)), (w.heap.size, Obj.cells #[.int .i64 (a / 18446744073709551616), .int .u64 (a % 18446744073709551616)] 24 (0, 0))] 19 [(6, true), (13, true)] 89 (teφ rz w5.heap.size ss S) B.out _ rfl (by kernel_rfl) (by rfl) (by kernel_rfl) ?_ (teφ_stable rz w5.heap.size ss S) ?_ ?_
      · intro g hgm v W hv
        simp only [List.mem_cons, List.not_mem_nil, or_false] at hgm
        rcases hgm with rfl | rfl <;> exact hv
      · simp only [List.take_succ_cons, List.take_zero]
        refine ⟨fun x W K hB hd hK => ?_, fun x W K hB hd hK => ?_, fun x W K hB hd hK => ?_, fun x W K hB hd hK => ?_, fun x W K hB hd hK => ?_, fun x W K hB hd hK => ?_, fun x W K hB hd hK => ?_, fun x W K hB hd hK => ?_, fun x W K hB hd hK => ?_, fun x W K hB hd hK => ?_, fun x W K hB hd hK => ?_, fun x W K hB hd hK => ?_, fun x W K hB hd hK => ?_, fun x W K hB hd hK => ?_, fun x W K hB hd hK => ?_, fun x W K hB hd hK => ?_, fun x W K hB hd hK => ?_, fun x W K hB hd hK => ?_, fun x W K hB hd hK => ?_, trivial⟩
        · simp only [puts, Act.put, List.setIfInBounds_toArray, List.set_cons_zero, List.set_cons_succ, Nat.reduceAdd, Nat.zero_add] at hK ⊢
          clear hd
          generalize x 0 = x0 at *
          generalize x 1 = x1 at *
          generalize x 2 = x2 at *
          generalize x 3 = x3 at *
          generalize x 4 = x4 at *
          generalize x 5 = x5 at *
          generalize x 6 = x6 at *
          generalize x 7 = x7 at *
          generalize x 8 = x8 at *
          generalize x 9 = x9 at *
          generalize x 10 = x10 at *
          generalize x 11 = x11 at *
          generalize x 12 = x12 at *
          generalize x 13 = x13 at *
          generalize x 14 = x14 at *
          generalize x 15 = x15 at *
          generalize x 16 = x16 at *
          generalize x 17 = x17 at *
          generalize x 18 = x18 at *
          obtain ⟨c0, c1⟩ := hB.c2 mem1
          go_simp
          exact hK _ _ (Below.refl _ _) rfl
        · simp only [puts, Act.put, List.setIfInBounds_toArray, List.set_cons_zero, List.set_cons_succ, Nat.reduceAdd, Nat.zero_add] at hK ⊢
          have d0 : x 0 = wideV rz := hd 0 (by decide)
          clear hd
          generalize x 0 = x0 at *
          generalize x 1 = x1 at *
          generalize x 2 = x2 at *
          generalize x 3 = x3 at *
          generalize x 4 = x4 at *
          generalize x 5 = x5 at *
          generalize x 6 = x6 at *
          generalize x 7 = x7 at *
          generalize x 8 = x8 at *
          generalize x 9 = x9 at *
          generalize x 10 = x10 at *
          generalize x 11 = x11 at *
          generalize x 12 = x12 at *
          generalize x 13 = x13 at *
          generalize x 14 = x14 at *
          generalize x 15 = x15 at *
          generalize x 16 = x16 at *
          generalize x 17 = x17 at *
          generalize x 18 = x18 at *
          subst d0
          go_simp
          refine (num_any rz _ FZ.out).mono ?_
          rintro e w2 ⟨v2, rfl, n2, b2⟩
          exact hK v2 w2 b2 n2
        · simp only [puts, Act.put, List.setIfInBounds_toArray, List.set_cons_zero, List.set_cons_succ, Nat.reduceAdd, Nat.zero_add] at hK ⊢
          have d1 : NumIs W (x 1) rz := hd 1 (by decide)
          clear hd
          generalize x 0 = x0 at *
          generalize x 1 = x1 at *
          generalize x 2 = x2 at *
          generalize x 3 = x3 at *
          generalize x 4 = x4 at *
          generalize x 5 = x5 at *
          generalize x 6 = x6 at *
          generalize x 7 = x7 at *
          generalize x 8 = x8 at *
          generalize x 9 = x9 at *
          generalize x 10 = x10 at *
          generalize x 11 = x11 at *
          generalize x 12 = x12 at *
          generalize x 13 = x13 at *
          generalize x 14 = x14 at *
          generalize x 15 = x15 at *
          generalize x 16 = x16 at *
          generalize x 17 = x17 at *
          generalize x 18 = x18 at *
          have D1 := hid d1
          clear d1
          obtain ⟨s9, ds9, e9, -⟩ := D1.out
          subst e9
          go_simp
          exact hK _ _ (Below.refl _ _) rfl
        · simp only [puts, Act.put, List.setIfInBounds_toArray, List.set_cons_zero, List.set_cons_succ, Nat.reduceAdd, Nat.zero_add] at hK ⊢
          clear hd
          generalize x 0 = x0 at *
          generalize x 1 = x1 at *
          generalize x 2 = x2 at *
          generalize x 3 = x3 at *
          generalize x 4 = x4 at *
          generalize x 5 = x5 at *
          generalize x 6 = x6 at *
          generalize x 7 = x7 at *
          generalize x 8 = x8 at *
          generalize x 9 = x9 at *
          generalize x 10 = x10 at *
          generalize x 11 = x11 at *
          generalize x 12 = x12 at *
          generalize x 13 = x13 at *
          generalize x 14 = x14 at *
          generalize x 15 = x15 at *
          generalize x 16 = x16 at *
          generalize x 17 = x17 at *
          generalize x 18 = x18 at *
          go_simp
          exact hK _ _ (Below.refl _ _) rfl
        · simp only [puts, Act.put, List.setIfInBounds_toArray, List.set_cons_zero, List.set_cons_succ, Nat.reduceAdd, Nat.zero_add] at hK ⊢
          have d3 : x 3 = .pointer (some ⟨w5.heap.size, 0, none⟩) := hd 3 (by decide)
          clear hd
          generalize x 0 = x0 at *
          generalize x 1 = x1 at *
          generalize x 2 = x2 at *
          generalize x 3 = x3 at *
          generalize x 4 = x4 at *
          generalize x 5 = x5 at *
          generalize x 6 = x6 at *
          generalize x 7 = x7 at *
          generalize x 8 = x8 at *
          generalize x 9 = x9 at *
          generalize x 10 = x10 at *
          generalize x 11 = x11 at *
          generalize x 12 = x12 at *
          generalize x 13 = x13 at *
          generalize x 14 = x14 at *
          generalize x 15 = x15 at *
          generalize x 16 = x16 at *
          generalize x 17 = x17 at *
          generalize x 18 = x18 at *
          subst d3
          obtain ⟨c0, c1⟩ := hB.c2 mem0
          go_simp
          exact hK _ _ (Below.refl _ _) rfl
        · simp only [puts, Act.put, List.setIfInBounds_toArray, List.set_cons_zero, List.set_cons_succ, Nat.reduceAdd, Nat.zero_add] at hK ⊢
          have d2 : x 2 = .bool (decide (rz < 0)) := hd 2 (by decide)
          have d4 : x 4 = .bool (decide (rz < 0)) := hd 4 (by decide)
          clear hd
          generalize x 0 = x0 at *
          generalize x 1 = x1 at *
          generalize x 2 = x2 at *
          generalize x 3 = x3 at *
          generalize x 4 = x4 at *
          generalize x 5 = x5 at *
          generalize x 6 = x6 at *
          generalize x 7 = x7 at *
          generalize x 8 = x8 at *
          generalize x 9 = x9 at *
          generalize x 10 = x10 at *
          generalize x 11 = x11 at *
          generalize x 12 = x12 at *
          generalize x 13 = x13 at *
          generalize x 14 = x14 at *
          generalize x 15 = x15 at *
          generalize x 16 = x16 at *
          generalize x 17 = x17 at *
          generalize x 18 = x18 at *
          subst d2
          subst d4
          go_simp
          exact hK _ _ (Below.refl _ _) rfl
        · simp only [puts, Act.put, List.setIfInBounds_toArray, List.set_cons_zero, List.set_cons_succ, Nat.reduceAdd, Nat.zero_add] at hK ⊢
          have d5 : x 5 = .bool true := hd 5 (by decide)
          clear hd
          generalize x 0 = x0 at *
          generalize x 1 = x1 at *
          generalize x 2 = x2 at *
          generalize x 3 = x3 at *
          generalize x 4 = x4 at *
          generalize x 5 = x5 at *
          generalize x 6 = x6 at *
          generalize x 7 = x7 at *
          generalize x 8 = x8 at *
          generalize x 9 = x9 at *
          generalize x 10 = x10 at *
          generalize x 11 = x11 at *
          generalize x 12 = x12 at *
          generalize x 13 = x13 at *
          generalize x 14 = x14 at *
          generalize x 15 = x15 at *
          generalize x 16 = x16 at *
          generalize x 17 = x17 at *
          generalize x 18 = x18 at *
          subst d5
          go_simp
          exact hK _ _ (Below.refl _ _) rfl
        · simp only [puts, Act.put, List.setIfInBounds_toArray, List.set_cons_zero, List.set_cons_succ, Nat.reduceAdd, Nat.zero_add] at hK ⊢
          clear hd
          generalize x 0 = x0 at *
          generalize x 1 = x1 at *
          generalize x 2 = x2 at *
          generalize x 3 = x3 at *
          generalize x 4 = x4 at *
          generalize x 5 = x5 at *
          generalize x 6 = x6 at *
          generalize x 7 = x7 at *
          generalize x 8 = x8 at *
          generalize x 9 = x9 at *
          generalize x 10 = x10 at *
          generalize x 11 = x11 at *
          generalize x 12 = x12 at *
          generalize x 13 = x13 at *
          generalize x 14 = x14 at *
          generalize x 15 = x15 at *
          generalize x 16 = x16 at *
          generalize x 17 = x17 at *
          generalize x 18 = x18 at *
          obtain ⟨c0, c1⟩ := hB.c2 mem1
          go_simp
          exact hK _ _ (Below.refl _ _) rfl
        · simp only [puts, Act.put, List.setIfInBounds_toArray, List.set_cons_zero, List.set_cons_succ, Nat.reduceAdd, Nat.zero_add] at hK ⊢
          have d7 : x 7 = wideV rz := hd 7 (by decide)
          clear hd
          generalize x 0 = x0 at *
          generalize x 1 = x1 at *
          generalize x 2 = x2 at *
          generalize x 3 = x3 at *
          generalize x 4 = x4 at *
          generalize x 5 = x5 at *
          generalize x 6 = x6 at *
          generalize x 7 = x7 at *
          generalize x 8 = x8 at *
          generalize x 9 = x9 at *
          generalize x 10 = x10 at *
          generalize x 11 = x11 at *
          generalize x 12 = x12 at *
          generalize x 13 = x13 at *
          generalize x 14 = x14 at *
          generalize x 15 = x15 at *
          generalize x 16 = x16 at *
          generalize x 17 = x17 at *
          generalize x 18 = x18 at *
          subst d7
          go_simp
          refine (num_any rz _ FZ.out).mono ?_
          rintro e w2 ⟨v2, rfl, n2, b2⟩
          exact hK v2 w2 b2 n2
        · simp only [puts, Act.put, List.setIfInBounds_toArray, List.set_cons_zero, List.set_cons_succ, Nat.reduceAdd, Nat.zero_add] at hK ⊢
          clear hd
          generalize x 0 = x0 at *
          generalize x 1 = x1 at *
          generalize x 2 = x2 at *
          generalize x 3 = x3 at *
          generalize x 4 = x4 at *
          generalize x 5 = x5 at *
          generalize x 6 = x6 at *
          generalize x 7 = x7 at *
          generalize x 8 = x8 at *
          generalize x 9 = x9 at *
          generalize x 10 = x10 at *
          generalize x 11 = x11 at *
          generalize x 12 = x12 at *
          generalize x 13 = x13 at *
          generalize x 14 = x14 at *
          generalize x 15 = x15 at *
          generalize x 16 = x16 at *
          generalize x 17 = x17 at *
          generalize x 18 = x18 at *
          obtain ⟨c0, c1⟩ := hB.c2 mem0
          go_simp
          exact hK _ _ (Below.refl _ _) rfl
        · simp only [puts, Act.put, List.setIfInBounds_toArray, List.set_cons_zero, List.set_cons_succ, Nat.reduceAdd, Nat.zero_add] at hK ⊢
          have d8 : NumIs W (x 8) rz := hd 8 (by decide)
          have d9 : x 9 = .agg #[.bool (decide (rz < 0)), ss] := hd 9 (by decide)
          clear hd
          generalize x 0 = x0 at *
          generalize x 1 = x1 at *
          generalize x 2 = x2 at *
          generalize x 3 = x3 at *
          generalize x 4 = x4 at *
          generalize x 5 = x5 at *
          generalize x 6 = x6 at *
          generalize x 7 = x7 at *
          generalize x 8 = x8 at *
          generalize x 9 = x9 at *
          generalize x 10 = x10 at *
          generalize x 11 = x11 at *
          generalize x 12 = x12 at *
          generalize x 13 = x13 at *
          generalize x 14 = x14 at *
          generalize x 15 = x15 at *
          generalize x 16 = x16 at *
          generalize x 17 = x17 at *
          generalize x 18 = x18 at *
          have D8 := hid d8
          clear d8
          subst d9
          go_simp
          refine (cmp_any _ _ rz rz _ D8.out (N5.out.below hB.bel) FZ.out.small FZ.out.small (small_of (by omega))).mono ?_
          rw [cmpOf_eq (x := rz) (y := rz) rfl]
          rintro e w2 ⟨rfl, b2⟩
          exact hK _ w2 b2 rfl
        · simp only [puts, Act.put, List.setIfInBounds_toArray, List.set_cons_zero, List.set_cons_succ, Nat.reduceAdd, Nat.zero_add] at hK ⊢
          have d10 : x 10 = .int .i64 0 := hd 10 (by decide)
          clear hd
          generalize x 0 = x0 at *
          generalize x 1 = x1 at *
          generalize x 2 = x2 at *
          generalize x 3 = x3 at *
          generalize x 4 = x4 at *
          generalize x 5 = x5 at *
          generalize x 6 = x6 at *
          generalize x 7 = x7 at *
          generalize x 8 = x8 at *
          generalize x 9 = x9 at *
          generalize x 10 = x10 at *
          generalize x 11 = x11 at *
          generalize x 12 = x12 at *
          generalize x 13 = x13 at *
          generalize x 14 = x14 at *
          generalize x 15 = x15 at *
          generalize x 16 = x16 at *
          generalize x 17 = x17 at *
          generalize x 18 = x18 at *
          subst d10
          go_simp
          exact hK _ _ (Below.refl _ _) rfl
        · simp only [puts, Act.put, List.setIfInBounds_toArray, List.set_cons_zero, List.set_cons_succ, Nat.reduceAdd, Nat.zero_add] at hK ⊢
          have d6 : x 6 = .bool true := hd 6 (by decide)
          have d11 : x 11 = .bool true := hd 11 (by decide)
          clear hd
          generalize x 0 = x0 at *
          generalize x 1 = x1 at *
          generalize x 2 = x2 at *
          generalize x 3 = x3 at *
          generalize x 4 = x4 at *
          generalize x 5 = x5 at *
          generalize x 6 = x6 at *
          generalize x 7 = x7 at *
          generalize x 8 = x8 at *
          generalize x 9 = x9 at *
          generalize x 10 = x10 at *
          generalize x 11 = x11 at *
          generalize x 12 = x12 at *
          generalize x 13 = x13 at *
          generalize x 14 = x14 at *
          generalize x 15 = x15 at *
          generalize x 16 = x16 at *
          generalize x 17 = x17 at *
          generalize x 18 = x18 at *
          subst d6
          subst d11
          go_simp
          exact hK _ _ (Below.refl _ _) rfl
        · simp only [puts, Act.put, List.setIfInBounds_toArray, List.set_cons_zero, List.set_cons_succ, Nat.reduceAdd, Nat.zero_add] at hK ⊢
          have d12 : x 12 = .bool true := hd 12 (by decide)
          clear hd
          generalize x 0 = x0 at *
          generalize x 1 = x1 at *
          generalize x 2 = x2 at *
          generalize x 3 = x3 at *
          generalize x 4 = x4 at *
          generalize x 5 = x5 at *
          generalize x 6 = x6 at *
          generalize x 7 = x7 at *
          generalize x 8 = x8 at *
          generalize x 9 = x9 at *
          generalize x 10 = x10 at *
          generalize x 11 = x11 at *
          generalize x 12 = x12 at *
          generalize x 13 = x13 at *
          generalize x 14 = x14 at *
          generalize x 15 = x15 at *
          generalize x 16 = x16 at *
          generalize x 17 = x17 at *
          generalize x 18 = x18 at *
          subst d12
          go_simp
          exact hK _ _ (Below.refl _ _) rfl
        · simp only [puts, Act.put, List.setIfInBounds_toArray, List.set_cons_zero, List.set_cons_succ, Nat.reduceAdd, Nat.zero_add] at hK ⊢
          clear hd
          generalize x 0 = x0 at *
          generalize x 1 = x1 at *
          generalize x 2 = x2 at *
          generalize x 3 = x3 at *
          generalize x 4 = x4 at *
          generalize x 5 = x5 at *
          generalize x 6 = x6 at *
          generalize x 7 = x7 at *
          generalize x 8 = x8 at *
          generalize x 9 = x9 at *
          generalize x 10 = x10 at *
          generalize x 11 = x11 at *
          generalize x 12 = x12 at *
          generalize x 13 = x13 at *
          generalize x 14 = x14 at *
          generalize x 15 = x15 at *
          generalize x 16 = x16 at *
          generalize x 17 = x17 at *
          generalize x 18 = x18 at *
          obtain ⟨c0, c1⟩ := hB.c2 mem1
          go_simp
          exact hK _ _ (Below.refl _ _) rfl
        · simp only [puts, Act.put, List.setIfInBounds_toArray, List.set_cons_zero, List.set_cons_succ, Nat.reduceAdd, Nat.zero_add] at hK ⊢
          have d14 : x 14 = wideV rz := hd 14 (by decide)
          clear hd
          generalize x 0 = x0 at *
          generalize x 1 = x1 at *
          generalize x 2 = x2 at *
          generalize x 3 = x3 at *
          generalize x 4 = x4 at *
          generalize x 5 = x5 at *
          generalize x 6 = x6 at *
          generalize x 7 = x7 at *
          generalize x 8 = x8 at *
          generalize x 9 = x9 at *
          generalize x 10 = x10 at *
          generalize x 11 = x11 at *
          generalize x 12 = x12 at *
          generalize x 13 = x13 at *
          generalize x 14 = x14 at *
          generalize x 15 = x15 at *
          generalize x 16 = x16 at *
          generalize x 17 = x17 at *
          generalize x 18 = x18 at *
          subst d14
          go_simp
          refine (TX.out _ (BW.out.trans (hB.bel.mono BW.out.size))).mono ?_
          rintro e w2 ⟨rfl, b2⟩
          exact hK _ w2 b2 rfl
        · simp only [puts, Act.put, List.setIfInBounds_toArray, List.set_cons_zero, List.set_cons_succ, Nat.reduceAdd, Nat.zero_add] at hK ⊢
          clear hd
          generalize x 0 = x0 at *
          generalize x 1 = x1 at *
          generalize x 2 = x2 at *
          generalize x 3 = x3 at *
          generalize x 4 = x4 at *
          generalize x 5 = x5 at *
          generalize x 6 = x6 at *
          generalize x 7 = x7 at *
          generalize x 8 = x8 at *
          generalize x 9 = x9 at *
          generalize x 10 = x10 at *
          generalize x 11 = x11 at *
          generalize x 12 = x12 at *
          generalize x 13 = x13 at *
          generalize x 14 = x14 at *
          generalize x 15 = x15 at *
          generalize x 16 = x16 at *
          generalize x 17 = x17 at *
          generalize x 18 = x18 at *
          go_simp
          exact hK _ _ (Below.refl _ _) rfl
        · simp only [puts, Act.put, List.setIfInBounds_toArray, List.set_cons_zero, List.set_cons_succ, Nat.reduceAdd, Nat.zero_add] at hK ⊢
          have d15 : x 15 = .string S := hd 15 (by decide)
          have d16 : x 16 = .string S := hd 16 (by decide)
          clear hd
          generalize x 0 = x0 at *
          generalize x 1 = x1 at *
          generalize x 2 = x2 at *
          generalize x 3 = x3 at *
          generalize x 4 = x4 at *
          generalize x 5 = x5 at *
          generalize x 6 = x6 at *
          generalize x 7 = x7 at *
          generalize x 8 = x8 at *
          generalize x 9 = x9 at *
          generalize x 10 = x10 at *
          generalize x 11 = x11 at *
          generalize x 12 = x12 at *
          generalize x 13 = x13 at *
          generalize x 14 = x14 at *
          generalize x 15 = x15 at *
          generalize x 16 = x16 at *
          generalize x 17 = x17 at *
          generalize x 18 = x18 at *
          subst d15
          subst d16
          go_simp
          exact hK _ _ (Below.refl _ _) rfl
        · simp only [puts, Act.put, List.setIfInBounds_toArray, List.set_cons_zero, List.set_cons_succ, Nat.reduceAdd, Nat.zero_add] at hK ⊢
          have d13 : x 13 = .bool true := hd 13 (by decide)
          have d17 : x 17 = .bool true := hd 17 (by decide)
          clear hd
          generalize x 0 = x0 at *
          generalize x 1 = x1 at *
          generalize x 2 = x2 at *
          generalize x 3 = x3 at *
          generalize x 4 = x4 at *
          generalize x 5 = x5 at *
          generalize x 6 = x6 at *
          generalize x 7 = x7 at *
          generalize x 8 = x8 at *
          generalize x 9 = x9 at *
          generalize x 10 = x10 at *
          generalize x 11 = x11 at *
          generalize x 12 = x12 at *
          generalize x 13 = x13 at *
          generalize x 14 = x14 at *
          generalize x 15 = x15 at *
          generalize x 16 = x16 at *
          generalize x 17 = x17 at *
          generalize x 18 = x18 at *
          subst d13
          subst d17
          go_simp
          exact hK _ _ (Below.refl _ _) rfl
      · intro x W hB hd
        have d18 : x 18 = .bool true := hd 18 (by decide)
        clear hd
        simp only [List.take_succ_cons, List.take_zero]
        simp only [puts, Act.put, List.setIfInBounds_toArray, List.set_cons_zero, List.set_cons_succ, Nat.reduceAdd, Nat.zero_add]
        generalize x 0 = x0 at *
        generalize x 1 = x1 at *
        generalize x 2 = x2 at *
        generalize x 3 = x3 at *
        generalize x 4 = x4 at *
        generalize x 5 = x5 at *
        generalize x 6 = x6 at *
        generalize x 7 = x7 at *
        generalize x 8 = x8 at *
        generalize x 9 = x9 at *
        generalize x 10 = x10 at *
        generalize x 11 = x11 at *
        generalize x 12 = x12 at *
        generalize x 13 = x13 at *
        generalize x 14 = x14 at *
        generalize x 15 = x15 at *
        generalize x 16 = x16 at *
        generalize x 17 = x17 at *
        generalize x 18 = x18 at *
        subst d18
        go_simp
        go_wp2_with fail
        go_ret
        exact ⟨rfl, BW.out.trans (hB.bel.mono BW.out.size)⟩
end Go.Proofs.YtjhekggeofalfaaDoor
