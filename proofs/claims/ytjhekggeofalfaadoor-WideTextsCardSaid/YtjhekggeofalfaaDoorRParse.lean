/- Contract of noonmarkref02.Parse. -/
import Derived.Test.YtjhekggeofalfaaDoorRText
import Derived.Laws.Strings3
namespace Go.Proofs.YtjhekggeofalfaaDoor
open Go.RowKit

/-- What the references' Parse answers: the number, and whether there is one. -/
noncomputable def rres (s : List UInt8) : Int × Bool := open Classical in
  match pval s with
  | some z => if (pdig s).length ≤ 40 then (z, true) else (0, false)
  | none => (0, false)
theorem rres_no (s : List UInt8) (h : Plain10 (pdig s) → (pneg s = true → (pdig s).head? ≠ some 48) → 40 < (pdig s).length) : rres s = (0, false) := by
  unfold rres
  rw [pval_parts]
  by_cases hp : Plain10 (pdig s) ∧ (pneg s = true → (pdig s).head? ≠ some 48)
  · rw [if_pos hp]
    exact if_neg (by have := h hp.1 hp.2; omega)
  · rw [if_neg hp]
theorem rres_yes (s : List UInt8) (h : Plain10 (pdig s)) (h2 : pneg s = true → (pdig s).head? ≠ some 48) (h3 : (pdig s).length ≤ 40) : rres s = (wsg (pneg s) (dv (pdig s) : Int), true) := by
  unfold rres
  rw [pval_parts, if_pos ⟨h, h2⟩]
  exact if_pos h3
theorem head48 {b : UInt8} {t : List UInt8} (h : b.toNat = 48) : (b :: t).head? = some 48 := by
  have : b = 48 := by rw [← UInt8.toNat_inj, h]; rfl
  rw [this]; rfl
theorem head48' {b : UInt8} {t : List UInt8} (h : (b :: t).head? = some 48) : b.toNat = 48 := by
  have : b = 48 := by simpa using h
  rw [this]; rfl
theorem head45 {b : UInt8} {t : List UInt8} (h : b.toNat = 45) : (b :: t).head? = some 45 := by
  have : b = 45 := by rw [← UInt8.toNat_inj, h]; rfl
  rw [this]; rfl
theorem num_zero (w : World) : NumIs w (.agg #[.bool false, .slice none 0 0]) 0 := ⟨_, [], rfl, IsRow.nil_ _, Canon.nil, rfl⟩
theorem dv40 {l : List UInt8} (h : ∀ b ∈ l, isDig b) (hl : l.length ≤ 40) : dv l < 10 ^ 40 :=
  Nat.lt_of_lt_of_le (dv_small l h) (Nat.pow_le_pow_right (by decide) hl)
theorem slice_tail (a : UInt8) (t : List UInt8) (W : World) : (Instr.slice 9 (.string (⟨(a :: t).toArray⟩ : ByteArray)) (some (.int .i64 1)) none none).run Tryd.prog W = .ok (.string ⟨t.toArray⟩) W := by
  rw [run_slice_string_from_if W 9 _ _ _ Tryd.underlying9]
  rw [if_pos ⟨by decide, by show (1 : Int) ≤ (((a :: t).toArray.size : Nat) : Int); simp; omega⟩]
  have : (⟨(a :: t).toArray⟩ : ByteArray).extract (Int.toNat 1) (⟨(a :: t).toArray⟩ : ByteArray).size = ⟨t.toArray⟩ := AnyPlain.small_ba _ _ (by rw [Lib.extract_data]; simp [ByteArray.size])
  rw [this]
/-- At the head of the loop. -/
def RpAt (w : World) (g : Nat) (L : List (Nat × Obj)) (d : List UInt8) (n : Nat) (i : Value) (wr : World) : Prop :=
  ∃ (k : Nat) (bb ss : Value), k ≤ n ∧ i = .int .i64 k ∧ Blks w wr ((g, Obj.cells #[bb, ss] 34 (0, 0)) :: L) ∧ NumIs wr (.agg #[bb, ss]) (dv (d.take k)) ∧ ∀ b ∈ d.take k, isDig b
/-- Region 12: what each operation leaves. -/
def rpφ (bb ss : Value) (S : ByteArray) (k : Nat) (xd V : Int) : Nat → Value → World → Prop
  | 0, v, _ => v = .agg #[bb, ss]
  | 1, v, W => NumIs W v 10
  | 2, v, W => NumIs W v (V * 10)
  | 3, v, _ => v = .string S
  | 4, v, _ => v = .int .i64 k
  | 5, v, _ => v = .int .u8 xd
  | 6, v, _ => v = .int .i64 xd
  | 7, v, _ => v = .int .i64 (xd - 48)
  | 8, v, W => NumIs W v (xd - 48)
  | 9, v, W => NumIs W v (V * 10 + (xd - 48))
  | _, _, _ => True
theorem rpφ_stable (bb ss : Value) (S : ByteArray) (k : Nat) (xd V : Int) : ∀ i v W W', Below W.heap.size W W' → rpφ bb ss S k xd V i v W → rpφ bb ss S k xd V i v W' := by
  intro i v W W' hb h
  match i, h with
  | 0, h => exact h
  | 1, h => exact NumIs.below h hb
  | 2, h => exact NumIs.below h hb
  | 3, h => exact h
  | 4, h => exact h
  | 5, h => exact h
  | 6, h => exact h
  | 7, h => exact h
  | 8, h => exact NumIs.below h hb
  | 9, h => exact NumIs.below h hb
  | _ + 10, _ => trivial

set_option maxRecDepth 100000 in
set_option maxHeartbeats 4000000 in
theorem refParse_any (s : List UInt8) (w : World) (hs : s.length ≤ 1000) :
    Calls Tryd.prog 28 #[.string ⟨s.toArray⟩] w fun e w' => ∃ v, e = .returned (.tuple #[v, .bool (rres s).2]) ∧ NumIs w' v (rres s).1 ∧ Below w.heap.size w w' := by
  have P0 := hid (rres_no s)
  have P1 := hid (rres_yes s)
  have HSL := hid hs
  clear hs
  have B := hid (Blks.two w (.cells #[.bool false, .slice none 0 0] 34) (.cells #[.bool false, .slice none 0 0] 34))
  rcases (show (∃ t, s = 45 :: t) ∨ s.head? ≠ some 45 from by cases s with | nil => exact .inr (by simp) | cons a t => exact (by by_cases h : a = 45; exact .inl ⟨t, by rw [h]⟩; exact .inr (by simpa using h))) with ⟨t0, rfl⟩ | hh
  · have D0 : pdig (45 :: t0) = t0 := by rw [pdig_eq, pneg_eq]; rfl
    have G0 : pneg (45 :: t0) = true := by rw [pneg_eq]; rfl
    rw [G0, D0] at P0 P1
    have hI0 : ∀ W, (Instr.index 9 (.string (⟨(45 :: t0).toArray⟩ : ByteArray)) (.int .i64 0)).run Tryd.prog W = .ok (.int .u8 45) W := fun W => index_at (45 :: t0) 0 (by simp) W
    have hSl := fun W => slice_tail 45 t0 W
    have hS0 : (⟨(45 :: t0).toArray⟩ : ByteArray).size = t0.length + 1 := rfl
    have HL0 := hid (show t0.length ≤ 1000 by have := HSL.out; rw [List.length_cons] at this; omega)
    generalize hRs : rres (45 :: t0) = R at *
    clear hRs HSL D0 G0
    obtain ⟨z, ok⟩ := R
    show Calls Tryd.prog 28 #[.string ⟨(45 :: t0).toArray⟩] w fun e w' => ∃ v, e = .returned (.tuple #[v, .bool ok]) ∧ NumIs w' v z ∧ Below w.heap.size w w'
    generalize (⟨(45 :: t0).toArray⟩ : ByteArray) = S0 at *
    cases t0 with
    | nil =>
      obtain ⟨rfl, rfl⟩ : z = 0 ∧ ok = false := by have := P0.out (fun h => absurd rfl h.1); injection this with e1 e2; exact ⟨e1, e2⟩
      clear P0 P1
      have hE : (⟨([] : List UInt8).toArray⟩ : ByteArray).toList.isEmpty = true := by rw [Lib.toList_data]; rfl
      have hS : (⟨([] : List UInt8).toArray⟩ : ByteArray).size = 0 := rfl
      generalize (⟨([] : List UInt8).toArray⟩ : ByteArray) = S at *
      go_enter Tryd.func28, Tryd.ntmps28
      go_wp2_with fail
      exact bodyPost_ret (v := .tuple #[.agg #[.bool false, .slice none 0 0], .bool false]) (by simp [results, Tryd.results28, go_sem]) rfl ⟨_, rfl, num_zero _, ((Below.refl _ _).alloc (Nat.le_refl _) _).alloc (by simp) _⟩
    | cons b t =>
      have hE : (⟨(b :: t).toArray⟩ : ByteArray).toList.isEmpty = false := by rw [Lib.toList_data]; rfl
      have hS : (⟨(b :: t).toArray⟩ : ByteArray).size = t.length + 1 := rfl
      have HIX := hid (fun (k : Nat) (hk : k < t.length + 1) (W : World) => index_at (b :: t) k hk W)
      have hI : ∀ W, (Instr.index 9 (.string (⟨(b :: t).toArray⟩ : ByteArray)) (.int .i64 0)).run Tryd.prog W = .ok (.int .u8 (b.toNat : Int)) W := fun W => index_at (b :: t) 0 (by simp) W
      generalize (⟨(b :: t).toArray⟩ : ByteArray) = S at *
      have hS0' : (t.length : Int) + 1 + 1 ≤ 1001 := by have := HL0.out; rw [List.length_cons] at this; omega
      rw [List.length_cons] at hS0
      have hlt : (t.length : Int) + 1 ≤ 1000 := by have := HL0.out; rw [List.length_cons] at this; omega
      clear HL0
      by_cases G1 : (40 : Int) < (t.length : Int) + 1
      · have E := hid (P0.out (fun _ _ => by rw [List.length_cons]; omega))
        obtain ⟨rfl, rfl⟩ : z = 0 ∧ ok = false := by have := E.out; injection this with e1 e2; exact ⟨e1, e2⟩
        clear P0 P1 E HIX
        go_enter Tryd.func28, Tryd.ntmps28
        go_wp2_with fail
        exact bodyPost_ret (v := .tuple #[.agg #[.bool false, .slice none 0 0], .bool false]) (by simp [results, Tryd.results28, go_sem]) rfl ⟨_, rfl, num_zero _, ((Below.refl _ _).alloc (Nat.le_refl _) _).alloc (by simp) _⟩
      · by_cases hb : b.toNat = 48
        · have E := hid (P0.out (fun h h2 => absurd (head48 (t := t) hb) (h2 rfl)))
          obtain ⟨rfl, rfl⟩ : z = 0 ∧ ok = false := by have := E.out; injection this with e1 e2; exact ⟨e1, e2⟩
          clear P0 P1 E HIX
          rw [hb] at hI
          by_cases ht : (0 : Int) < (t.length : Int)
          · go_enter Tryd.func28, Tryd.ntmps28
            go_wp2_with fail
            exact bodyPost_ret (v := .tuple #[.agg #[.bool false, .slice none 0 0], .bool false]) (by simp [results, Tryd.results28, go_sem]) rfl ⟨_, rfl, num_zero _, ((Below.refl _ _).alloc (Nat.le_refl _) _).alloc (by simp) _⟩
          · go_enter Tryd.func28, Tryd.ntmps28
            go_wp2_with fail
            exact bodyPost_ret (v := .tuple #[.agg #[.bool false, .slice none 0 0], .bool false]) (by simp [results, Tryd.results28, go_sem]) rfl ⟨_, rfl, num_zero _, ((Below.refl _ _).alloc (Nat.le_refl _) _).alloc (by simp) _⟩
        · have hb2 : ((b.toNat : Int) == 48) = false := beq_eq_false_iff_ne.2 (by omega)
          have HP := hid (show ∀ h : ∀ c ∈ b :: t, isDig c, Plain10 (b :: t) ∧ (true = true → (b :: t).head? ≠ some 48) from fun h => by
              have hh : (b :: t).head? ≠ some 48 := fun e => hb (head48' e)
              exact ⟨⟨by simp, h, fun e => absurd e hh⟩, fun _ => hh⟩)
          go_enter Tryd.func28, Tryd.ntmps28
          go_wp2_with fail
          have HD := hid (show (b :: t).length = t.length + 1 from rfl)
          clear hI hE hb hb2 hI0 hSl hS0 hS0'
          have G40 := hid (show t.length + 1 ≤ 40 by omega)
          clear G1
          generalize b :: t = D at *
          obtain ⟨n, hn⟩ : ∃ n : Nat, n = t.length + 1 := ⟨_, rfl⟩
          rw [show (t.length : Int) + 1 = (n : Int) by omega] at hlt
          rw [← hn] at HD G40 HIX hS
          clear hn
          go_loopw [6] (fun i wr => RpAt w (w.heap.size + 1) [(w.heap.size, Obj.cells #[.bool false, .slice none 0 0] 34 (0, 0))] D n i wr) (fun i _ => n - (intOf i).toNat)
          case atStart => exact ⟨0, _, _, Nat.zero_le _, rfl, B.out, by rw [List.take_zero]; exact num_zero _, by simp⟩
          case round =>
            obtain ⟨k, bb, ss, hk, rfl, hB, hN, hdig⟩ := hrel
            replace B := hid hB
            have N := hid hN
            have DG := hid hdig
            obtain ⟨sA, sds, hv, hrr, -⟩ := hN
            obtain ⟨sB, sc, hsl, -⟩ := hrr
            subst hsl
            injection hv with hv
            injection hv with hv
            injection hv with hv1 hv2
            injection hv2 with hv2
            subst hv1 hv2
            clear hB hdig
            generalize sds.length = q at *
            generalize decide ((dv (D.take k) : Int) < 0) = pb at *
            by_cases hlt2 : k < n
            · have hI := HIX.out k hlt2
              have xb := dgt_byte D k
              have VT := hid (dv_take_succ (d := D) (k := k) (by have := HD.out; omega))
              have DK := hid (dig_take_succ (d := D) (k := k) (by have := HD.out; omega) DG.out)
              have NT := hid (not_dig (d := D) (k := k) (by have := HD.out; omega))
              have VL := hid (dv40 DG.out (by rw [List.length_take]; have := G40.out; have := HD.out; omega))
              generalize dgt D k = xd at *
              by_cases hx : 48 ≤ xd ∧ xd ≤ 57
              · obtain ⟨x0, x1⟩ := hx
                replace VT := hid (VT.out x0)
                replace DK := hid (DK.out ⟨x0, x1⟩)
                have FX := hid (show Fits (xd - 48) from ⟨by omega, by omega⟩)
                clear NT HIX
                have hx1 : ¬ xd < 48 := by omega
                have hx2 : ¬ 57 < xd := by omega
                generalize hV : (dv (D.take k) : Int) = V at *
                have SV := hid (show Small V from small_of (by have := VL.out; omega))
                have SV10 := hid (show Small (V * 10) from small_of (by have := VL.out; omega))
                clear hV VL
                go_upto_region 12 with fail
                generalize Value.bool pb = bb at *
                generalize Value.slice sB q sc = ss at *
                have BW := hid B.out.bel
                replace B := hid (show Blks wr wr [(w.heap.size + 1, Obj.cells #[bb, ss] 34 (0, 0)), (w.heap.size, Obj.cells #[.bool false, .slice none 0 0] 34 (0, 0))] from ⟨Below.refl _ _, B.out.2⟩)
                refine wp_region_each wr [(w.heap.size + 1, Obj.cells #[bb, ss] 34 (0, 0)), (w.heap.size, Obj.cells #[.bool false, .slice none 0 0] 34 (0, 0))] 10 (rpφ bb ss S k xd V) B.out _ rfl (by kernel_rfl) (by kernel_rfl) (rpφ_stable bb ss S k xd V) ?_ ?_
                · simp only [List.take_succ_cons, List.take_zero]
                  refine ⟨fun x W K hB hd hK => ?_, fun x W K hB hd hK => ?_, fun x W K hB hd hK => ?_, fun x W K hB hd hK => ?_, fun x W K hB hd hK => ?_, fun x W K hB hd hK => ?_, fun x W K hB hd hK => ?_, fun x W K hB hd hK => ?_, fun x W K hB hd hK => ?_, fun x W K hB hd hK => ?_, trivial⟩
                  · simp only [puts, Act.put, List.setIfInBounds_toArray, List.set_cons_zero, List.set_cons_succ, Nat.reduceAdd, Nat.zero_add] at hK ⊢
                    clear hd
                    generalize x 0 = x0 at *
                    generalize x 1 = x1 at *
                    generalize x 2 = x2 at *
                    generalize x 3 = x3 at *
                    generalize x 4 = x4 at *
                    generalize x 5 = x5 at *
                    generalize x 6 = x6 at *
                    generalize x 7 = x7 at *
                    generalize x 8 = x8 at *
                    generalize x 9 = x9 at *
                    obtain ⟨c0, c1⟩ := hB.c2 mem0
                    go_simp
                    exact hK _ _ (Below.refl _ _) rfl
                  · simp only [puts, Act.put, List.setIfInBounds_toArray, List.set_cons_zero, List.set_cons_succ, Nat.reduceAdd, Nat.zero_add] at hK ⊢
                    clear hd
                    generalize x 0 = x0 at *
                    generalize x 1 = x1 at *
                    generalize x 2 = x2 at *
                    generalize x 3 = x3 at *
                    generalize x 4 = x4 at *
                    generalize x 5 = x5 at *
                    generalize x 6 = x6 at *
                    generalize x 7 = x7 at *
                    generalize x 8 = x8 at *
                    generalize x 9 = x9 at *
                    go_simp
                    refine (of_any 10 _ ⟨by decide, by decide⟩).mono ?_
                    rintro e w2 ⟨v2, rfl, n2, b2⟩
                    exact hK v2 w2 b2 n2
                  · simp only [puts, Act.put, List.setIfInBounds_toArray, List.set_cons_zero, List.set_cons_succ, Nat.reduceAdd, Nat.zero_add] at hK ⊢
                    have d0 : x 0 = .agg #[bb, ss] := hd 0 (by decide)
                    have d1 : NumIs W (x 1) 10 := hd 1 (by decide)
                    clear hd
                    generalize x 0 = x0 at *
                    generalize x 1 = x1 at *
                    generalize x 2 = x2 at *
                    generalize x 3 = x3 at *
                    generalize x 4 = x4 at *
                    generalize x 5 = x5 at *
                    generalize x 6 = x6 at *
                    generalize x 7 = x7 at *
                    generalize x 8 = x8 at *
                    generalize x 9 = x9 at *
                    subst d0
                    have D1 := hid d1
                    clear d1
                    go_simp
                    refine (mul_any _ _ V 10 _ (N.out.below hB.bel) D1.out SV.out (small_of (by decide))).mono ?_
                    rintro e w2 ⟨v2, rfl, n2, b2⟩
                    exact hK v2 w2 b2 n2
                  · simp only [puts, Act.put, List.setIfInBounds_toArray, List.set_cons_zero, List.set_cons_succ, Nat.reduceAdd, Nat.zero_add] at hK ⊢
                    clear hd
                    generalize x 0 = x0 at *
                    generalize x 1 = x1 at *
                    generalize x 2 = x2 at *
                    generalize x 3 = x3 at *
                    generalize x 4 = x4 at *
                    generalize x 5 = x5 at *
                    generalize x 6 = x6 at *
                    generalize x 7 = x7 at *
                    generalize x 8 = x8 at *
                    generalize x 9 = x9 at *
                    go_simp
                    exact hK _ _ (Below.refl _ _) rfl
                  · simp only [puts, Act.put, List.setIfInBounds_toArray, List.set_cons_zero, List.set_cons_succ, Nat.reduceAdd, Nat.zero_add] at hK ⊢
                    clear hd
                    generalize x 0 = x0 at *
                    generalize x 1 = x1 at *
                    generalize x 2 = x2 at *
                    generalize x 3 = x3 at *
                    generalize x 4 = x4 at *
                    generalize x 5 = x5 at *
                    generalize x 6 = x6 at *
                    generalize x 7 = x7 at *
                    generalize x 8 = x8 at *
                    generalize x 9 = x9 at *
                    go_simp
                    exact hK _ _ (Below.refl _ _) rfl
                  · simp only [puts, Act.put, List.setIfInBounds_toArray, List.set_cons_zero, List.set_cons_succ, Nat.reduceAdd, Nat.zero_add] at hK ⊢
                    have d3 : x 3 = .string S := hd 3 (by decide)
                    have d4 : x 4 = .int .i64 k := hd 4 (by decide)
                    clear hd
                    generalize x 0 = x0 at *
                    generalize x 1 = x1 at *
                    generalize x 2 = x2 at *
                    generalize x 3 = x3 at *
                    generalize x 4 = x4 at *
                    generalize x 5 = x5 at *
                    generalize x 6 = x6 at *
                    generalize x 7 = x7 at *
                    generalize x 8 = x8 at *
                    generalize x 9 = x9 at *
                    subst d3
                    subst d4
                    go_simp
                    exact hK _ _ (Below.refl _ _) rfl
                  · simp only [puts, Act.put, List.setIfInBounds_toArray, List.set_cons_zero, List.set_cons_succ, Nat.reduceAdd, Nat.zero_add] at hK ⊢
                    have d5 : x 5 = .int .u8 xd := hd 5 (by decide)
                    clear hd
                    generalize x 0 = x0 at *
                    generalize x 1 = x1 at *
                    generalize x 2 = x2 at *
                    generalize x 3 = x3 at *
                    generalize x 4 = x4 at *
                    generalize x 5 = x5 at *
                    generalize x 6 = x6 at *
                    generalize x 7 = x7 at *
                    generalize x 8 = x8 at *
                    generalize x 9 = x9 at *
                    subst d5
                    have sw6 : IntKind.i64.wrap xd = xd := IntWalk.i64_in _ (by omega)
                    go_simp
                    exact hK _ _ (Below.refl _ _) rfl
                  · simp only [puts, Act.put, List.setIfInBounds_toArray, List.set_cons_zero, List.set_cons_succ, Nat.reduceAdd, Nat.zero_add] at hK ⊢
                    have d6 : x 6 = .int .i64 xd := hd 6 (by decide)
                    clear hd
                    generalize x 0 = x0 at *
                    generalize x 1 = x1 at *
                    generalize x 2 = x2 at *
                    generalize x 3 = x3 at *
                    generalize x 4 = x4 at *
                    generalize x 5 = x5 at *
                    generalize x 6 = x6 at *
                    generalize x 7 = x7 at *
                    generalize x 8 = x8 at *
                    generalize x 9 = x9 at *
                    subst d6
                    have sw : IntKind.i64.wrap (xd - 48) = xd - 48 := IntWalk.i64_in _ (by omega)
                    go_simp
                    exact hK _ _ (Below.refl _ _) rfl
                  · simp only [puts, Act.put, List.setIfInBounds_toArray, List.set_cons_zero, List.set_cons_succ, Nat.reduceAdd, Nat.zero_add] at hK ⊢
                    have d7 : x 7 = .int .i64 (xd - 48) := hd 7 (by decide)
                    clear hd
                    generalize x 0 = x0 at *
                    generalize x 1 = x1 at *
                    generalize x 2 = x2 at *
                    generalize x 3 = x3 at *
                    generalize x 4 = x4 at *
                    generalize x 5 = x5 at *
                    generalize x 6 = x6 at *
                    generalize x 7 = x7 at *
                    generalize x 8 = x8 at *
                    generalize x 9 = x9 at *
                    subst d7
                    go_simp
                    refine (of_any (xd - 48) _ FX.out).mono ?_
                    rintro e w2 ⟨v2, rfl, n2, b2⟩
                    exact hK v2 w2 b2 n2
                  · simp only [puts, Act.put, List.setIfInBounds_toArray, List.set_cons_zero, List.set_cons_succ, Nat.reduceAdd, Nat.zero_add] at hK ⊢
                    have d2 : NumIs W (x 2) (V * 10) := hd 2 (by decide)
                    have d8 : NumIs W (x 8) (xd - 48) := hd 8 (by decide)
                    clear hd
                    generalize x 0 = x0 at *
                    generalize x 1 = x1 at *
                    generalize x 2 = x2 at *
                    generalize x 3 = x3 at *
                    generalize x 4 = x4 at *
                    generalize x 5 = x5 at *
                    generalize x 6 = x6 at *
                    generalize x 7 = x7 at *
                    generalize x 8 = x8 at *
                    generalize x 9 = x9 at *
                    have D2 := hid d2
                    clear d2
                    have D8 := hid d8
                    clear d8
                    go_simp
                    refine (add_any _ _ (V * 10) (xd - 48) _ D2.out D8.out SV10.out FX.out.small).mono ?_
                    rintro e w2 ⟨v2, rfl, n2, b2⟩
                    exact hK v2 w2 b2 n2
                · intro x W hB hd
                  have d9 : NumIs W (x 9) (V * 10 + (xd - 48)) := hd 9 (by decide)
                  clear hd
                  simp only [List.take_succ_cons, List.take_zero]
                  simp only [puts, Act.put, List.setIfInBounds_toArray, List.set_cons_zero, List.set_cons_succ, Nat.reduceAdd, Nat.zero_add]
                  generalize x 0 = x0 at *
                  generalize x 1 = x1 at *
                  generalize x 2 = x2 at *
                  generalize x 3 = x3 at *
                  generalize x 4 = x4 at *
                  generalize x 5 = x5 at *
                  generalize x 6 = x6 at *
                  generalize x 7 = x7 at *
                  generalize x 8 = x8 at *
                  generalize x 9 = x9 at *
                  have N9 := hid d9
                  obtain ⟨s9, d9', rfl, hr9, -⟩ := d9
                  obtain ⟨A9, c9, rfl, -⟩ := hr9
                  obtain ⟨q0, q1⟩ := hB.c2 mem0
                  have z0 := hB.fz mem0 0
                  have z1 := hB.fz mem0 1
                  have NA := hid (NumAt.put (show Blks w W _ from ⟨BW.out.trans (hB.bel.mono BW.out.size), hB.2⟩) (by omega) (by intro p hp; simp at hp; subst hp; simp) N9.out)
                  clear B N hI
                  go_simp
                  go_wp2_with fail
                  go_roundw
                  case rel => exact ⟨k + 1, _, _, by omega, by go_num, NA.out.2, by rw [VT.out]; exact NA.out.1, DK.out⟩
                  case measure => simp [intOf]; omega
              · have E := hid (P0.out (fun h => absurd h.2.1 (NT.out hx)))
                obtain ⟨rfl, rfl⟩ : z = 0 ∧ ok = false := by have := E.out; injection this with e1 e2; exact ⟨e1, e2⟩
                clear P0 P1 E HIX NT DK VT HP
                obtain ⟨r0, r1⟩ := B.out.c2 mem1
                have z0 := B.out.fz mem1 0
                have z1 := B.out.fz mem1 1
                by_cases hx48 : xd < 48
                · go_wp2_with fail
                  exact bodyPost_ret (v := .tuple #[.agg #[.bool false, .slice none 0 0], .bool false]) (by simp [results, Tryd.results28, go_sem, r0, r1]) rfl ⟨_, rfl, num_zero _, below_set2 B.out.bel (by omega) _ _⟩
                · have hx57 : 57 < xd := by omega
                  go_wp2_with fail
                  exact bodyPost_ret (v := .tuple #[.agg #[.bool false, .slice none 0 0], .bool false]) (by simp [results, Tryd.results28, go_sem, r0, r1]) rfl ⟨_, rfl, num_zero _, below_set2 B.out.bel (by omega) _ _⟩
            · have hkn : k = n := by omega
              subst hkn
              have ht : D.take k = D := List.take_of_length_le (by have := HD.out; omega)
              rw [ht] at N DG
              have PL := hid (HP.out DG.out)
              have E := hid (P1.out PL.out.1 PL.out.2 (by have := G40.out; have := HD.out; omega))
              obtain ⟨ez, eo⟩ := Prod.ext_iff.1 E.out
              have EZ := hid (show z = wsg true (dv D : Int) from ez)
              obtain rfl : ok = true := eo
              clear ez E P0 P1 HIX HP PL ht DG
              generalize (dv D : Int) = V at *
              obtain ⟨c0, c1⟩ := B.out.c2 mem0
              go_wp2_with fail
              clear c0 c1
              refine (neg_any _ V _ N.out).mono ?_
              rintro e w9 ⟨v9, rfl, n9, b9⟩
              have N9 := hid n9
              obtain ⟨s9, d9, rfl, hr9, -⟩ := n9
              obtain ⟨A9, c9, rfl, -⟩ := hr9
              replace B := hid (B.out.below b9)
              clear b9 N
              generalize decide (-V < 0) = p9 at *
              generalize d9.length = n9 at *
              obtain ⟨k0, k1⟩ := B.out.c2 mem0
              have y0 := B.out.fz mem0 0
              have y1 := B.out.fz mem0 1
              obtain ⟨r0, r1⟩ := B.out.c2 mem1
              have z0 := B.out.fz mem1 0
              have z1 := B.out.fz mem1 1
              go_wp2_with fail
              have B9 := Blks.set2 B.out (by omega) (by simp) (.bool p9) (.slice A9 n9 c9)
              have M9 := NumIs.set2 (NumIs.set2 N9.out (B.out.at_ mem0) (.bool p9) (.slice A9 n9 c9)) (B9.at_ mem1) (.bool p9) (.slice A9 n9 c9)
              exact bodyPost_ret (v := .tuple #[.agg #[.bool p9, .slice A9 n9 c9], .bool true]) (by simp [results, Tryd.results28, go_sem, r0, r1]) rfl ⟨_, rfl, by rw [EZ.out]; exact M9, below_set2 B9.bel (by omega) _ _⟩
  · have G0 : pneg s = false := by rw [pneg_eq]; exact decide_eq_false hh
    have D0 : pdig s = s := by rw [pdig_eq, G0]; rfl
    rw [G0, D0] at P0 P1
    have HL0 := hid (show s.length ≤ 1000 from HSL.out)
    generalize hRs : rres s = R at *
    clear hRs HSL D0 G0
    obtain ⟨z, ok⟩ := R
    show Calls Tryd.prog 28 #[.string ⟨s.toArray⟩] w fun e w' => ∃ v, e = .returned (.tuple #[v, .bool ok]) ∧ NumIs w' v z ∧ Below w.heap.size w w'
    cases s with
    | nil =>
      obtain ⟨rfl, rfl⟩ : z = 0 ∧ ok = false := by have := P0.out (fun h => absurd rfl h.1); injection this with e1 e2; exact ⟨e1, e2⟩
      clear P0 P1
      have hE : (⟨([] : List UInt8).toArray⟩ : ByteArray).toList.isEmpty = true := by rw [Lib.toList_data]; rfl
      have hS : (⟨([] : List UInt8).toArray⟩ : ByteArray).size = 0 := rfl
      generalize (⟨([] : List UInt8).toArray⟩ : ByteArray) = S at *
      go_enter Tryd.func28, Tryd.ntmps28
      go_wp2_with fail
      exact bodyPost_ret (v := .tuple #[.agg #[.bool false, .slice none 0 0], .bool false]) (by simp [results, Tryd.results28, go_sem]) rfl ⟨_, rfl, num_zero _, ((Below.refl _ _).alloc (Nat.le_refl _) _).alloc (by simp) _⟩
    | cons b t =>
      have hE : (⟨(b :: t).toArray⟩ : ByteArray).toList.isEmpty = false := by rw [Lib.toList_data]; rfl
      have hS : (⟨(b :: t).toArray⟩ : ByteArray).size = t.length + 1 := rfl
      have HIX := hid (fun (k : Nat) (hk : k < t.length + 1) (W : World) => index_at (b :: t) k hk W)
      have hI : ∀ W, (Instr.index 9 (.string (⟨(b :: t).toArray⟩ : ByteArray)) (.int .i64 0)).run Tryd.prog W = .ok (.int .u8 (b.toNat : Int)) W := fun W => index_at (b :: t) 0 (by simp) W
      generalize (⟨(b :: t).toArray⟩ : ByteArray) = S at *
      have hb45 : ((b.toNat : Int) == 45) = false := beq_eq_false_iff_ne.2 fun e => hh (head45 (by omega))
      clear hh
      have hlt : (t.length : Int) + 1 ≤ 1000 := by have := HL0.out; rw [List.length_cons] at this; omega
      clear HL0
      by_cases G1 : (40 : Int) < (t.length : Int) + 1
      · have E := hid (P0.out (fun _ _ => by rw [List.length_cons]; omega))
        obtain ⟨rfl, rfl⟩ : z = 0 ∧ ok = false := by have := E.out; injection this with e1 e2; exact ⟨e1, e2⟩
        clear P0 P1 E HIX
        go_enter Tryd.func28, Tryd.ntmps28
        go_wp2_with fail
        exact bodyPost_ret (v := .tuple #[.agg #[.bool false, .slice none 0 0], .bool false]) (by simp [results, Tryd.results28, go_sem]) rfl ⟨_, rfl, num_zero _, ((Below.refl _ _).alloc (Nat.le_refl _) _).alloc (by simp) _⟩
      · by_cases hb : b.toNat = 48 ∧ (0 : Int) < (t.length : Int)
        · have E := hid (P0.out (fun h _ => by
            have := h.2.2 (head48 hb.1)
            rw [List.length_cons] at this
            omega))
          obtain ⟨rfl, rfl⟩ : z = 0 ∧ ok = false := by have := E.out; injection this with e1 e2; exact ⟨e1, e2⟩
          clear P0 P1 E HIX
          obtain ⟨hb, ht⟩ := hb
          rw [hb] at hI hb45
          go_enter Tryd.func28, Tryd.ntmps28
          go_wp2_with fail
          exact bodyPost_ret (v := .tuple #[.agg #[.bool false, .slice none 0 0], .bool false]) (by simp [results, Tryd.results28, go_sem]) rfl ⟨_, rfl, num_zero _, ((Below.refl _ _).alloc (Nat.le_refl _) _).alloc (by simp) _⟩
        · have HP := hid (show ∀ h : ∀ c ∈ b :: t, isDig c, Plain10 (b :: t) ∧ (false = true → (b :: t).head? ≠ some 48) from fun h => by
              refine ⟨⟨by simp, h, fun e => ?_⟩, fun q => by cases q⟩
              rw [List.length_cons]
              have : ¬ (0 : Int) < (t.length : Int) := fun l => hb ⟨head48' e, l⟩
              omega)
          have HG : b.toNat ≠ 48 ∨ (b.toNat = 48 ∧ t.length = 0) := by omega
          clear hb
          rcases HG with hb | ⟨hb, ht⟩
          · have hb2 : ((b.toNat : Int) == 48) = false := beq_eq_false_iff_ne.2 (by omega)
            go_enter Tryd.func28, Tryd.ntmps28
            go_wp2_with fail
            have HD := hid (show (b :: t).length = t.length + 1 from rfl)
            clear hI hE hb hb2 hb45
            have G40 := hid (show t.length + 1 ≤ 40 by omega)
            clear G1
            generalize b :: t = D at *
            obtain ⟨n, hn⟩ : ∃ n : Nat, n = t.length + 1 := ⟨_, rfl⟩
            rw [show (t.length : Int) + 1 = (n : Int) by omega] at hlt
            rw [← hn] at HD G40 HIX hS
            clear hn
            go_loopw [6] (fun i wr => RpAt w (w.heap.size + 1) [(w.heap.size, Obj.cells #[.bool false, .slice none 0 0] 34 (0, 0))] D n i wr) (fun i _ => n - (intOf i).toNat)
            case atStart => exact ⟨0, _, _, Nat.zero_le _, rfl, B.out, by rw [List.take_zero]; exact num_zero _, by simp⟩
            case round =>
              obtain ⟨k, bb, ss, hk, rfl, hB, hN, hdig⟩ := hrel
              replace B := hid hB
              have N := hid hN
              have DG := hid hdig
              obtain ⟨sA, sds, hv, hrr, -⟩ := hN
              obtain ⟨sB, sc, hsl, -⟩ := hrr
              subst hsl
              injection hv with hv
              injection hv with hv
              injection hv with hv1 hv2
              injection hv2 with hv2
              subst hv1 hv2
              clear hB hdig
              generalize sds.length = q at *
              generalize decide ((dv (D.take k) : Int) < 0) = pb at *
              by_cases hlt2 : k < n
              · have hI := HIX.out k hlt2
                have xb := dgt_byte D k
                have VT := hid (dv_take_succ (d := D) (k := k) (by have := HD.out; omega))
                have DK := hid (dig_take_succ (d := D) (k := k) (by have := HD.out; omega) DG.out)
                have NT := hid (not_dig (d := D) (k := k) (by have := HD.out; omega))
                have VL := hid (dv40 DG.out (by rw [List.length_take]; have := G40.out; have := HD.out; omega))
                generalize dgt D k = xd at *
                by_cases hx : 48 ≤ xd ∧ xd ≤ 57
                · obtain ⟨x0, x1⟩ := hx
                  replace VT := hid (VT.out x0)
                  replace DK := hid (DK.out ⟨x0, x1⟩)
                  have FX := hid (show Fits (xd - 48) from ⟨by omega, by omega⟩)
                  clear NT HIX
                  have hx1 : ¬ xd < 48 := by omega
                  have hx2 : ¬ 57 < xd := by omega
                  generalize hV : (dv (D.take k) : Int) = V at *
                  have SV := hid (show Small V from small_of (by have := VL.out; omega))
                  have SV10 := hid (show Small (V * 10) from small_of (by have := VL.out; omega))
                  clear hV VL
                  go_upto_region 12 with fail
                  generalize Value.bool pb = bb at *
                  generalize Value.slice sB q sc = ss at *
                  have BW := hid B.out.bel
                  replace B := hid (show Blks wr wr [(w.heap.size + 1, Obj.cells #[bb, ss] 34 (0, 0)), (w.heap.size, Obj.cells #[.bool false, .slice none 0 0] 34 (0, 0))] from ⟨Below.refl _ _, B.out.2⟩)
                  refine wp_region_each wr [(w.heap.size + 1, Obj.cells #[bb, ss] 34 (0, 0)), (w.heap.size, Obj.cells #[.bool false, .slice none 0 0] 34 (0, 0))] 10 (rpφ bb ss S k xd V) B.out _ rfl (by kernel_rfl) (by kernel_rfl) (rpφ_stable bb ss S k xd V) ?_ ?_
                  · simp only [List.take_succ_cons, List.take_zero]
                    refine ⟨fun x W K hB hd hK => ?_, fun x W K hB hd hK => ?_, fun x W K hB hd hK => ?_, fun x W K hB hd hK => ?_, fun x W K hB hd hK => ?_, fun x W K hB hd hK => ?_, fun x W K hB hd hK => ?_, fun x W K hB hd hK => ?_, fun x W K hB hd hK => ?_, fun x W K hB hd hK => ?_, trivial⟩
                    · simp only [puts, Act.put, List.setIfInBounds_toArray, List.set_cons_zero, List.set_cons_succ, Nat.reduceAdd, Nat.zero_add] at hK ⊢
                      clear hd
                      generalize x 0 = x0 at *
                      generalize x 1 = x1 at *
                      generalize x 2 = x2 at *
                      generalize x 3 = x3 at *
                      generalize x 4 = x4 at *
                      generalize x 5 = x5 at *
                      generalize x 6 = x6 at *
                      generalize x 7 = x7 at *
                      generalize x 8 = x8 at *
                      generalize x 9 = x9 at *
                      obtain ⟨c0, c1⟩ := hB.c2 mem0
                      go_simp
                      exact hK _ _ (Below.refl _ _) rfl
                    · simp only [puts, Act.put, List.setIfInBounds_toArray, List.set_cons_zero, List.set_cons_succ, Nat.reduceAdd, Nat.zero_add] at hK ⊢
                      clear hd
                      generalize x 0 = x0 at *
                      generalize x 1 = x1 at *
                      generalize x 2 = x2 at *
                      generalize x 3 = x3 at *
                      generalize x 4 = x4 at *
                      generalize x 5 = x5 at *
                      generalize x 6 = x6 at *
                      generalize x 7 = x7 at *
                      generalize x 8 = x8 at *
                      generalize x 9 = x9 at *
                      go_simp
                      refine (of_any 10 _ ⟨by decide, by decide⟩).mono ?_
                      rintro e w2 ⟨v2, rfl, n2, b2⟩
                      exact hK v2 w2 b2 n2
                    · simp only [puts, Act.put, List.setIfInBounds_toArray, List.set_cons_zero, List.set_cons_succ, Nat.reduceAdd, Nat.zero_add] at hK ⊢
                      have d0 : x 0 = .agg #[bb, ss] := hd 0 (by decide)
                      have d1 : NumIs W (x 1) 10 := hd 1 (by decide)
                      clear hd
                      generalize x 0 = x0 at *
                      generalize x 1 = x1 at *
                      generalize x 2 = x2 at *
                      generalize x 3 = x3 at *
                      generalize x 4 = x4 at *
                      generalize x 5 = x5 at *
                      generalize x 6 = x6 at *
                      generalize x 7 = x7 at *
                      generalize x 8 = x8 at *
                      generalize x 9 = x9 at *
                      subst d0
                      have D1 := hid d1
                      clear d1
                      go_simp
                      refine (mul_any _ _ V 10 _ (N.out.below hB.bel) D1.out SV.out (small_of (by decide))).mono ?_
                      rintro e w2 ⟨v2, rfl, n2, b2⟩
                      exact hK v2 w2 b2 n2
                    · simp only [puts, Act.put, List.setIfInBounds_toArray, List.set_cons_zero, List.set_cons_succ, Nat.reduceAdd, Nat.zero_add] at hK ⊢
                      clear hd
                      generalize x 0 = x0 at *
                      generalize x 1 = x1 at *
                      generalize x 2 = x2 at *
                      generalize x 3 = x3 at *
                      generalize x 4 = x4 at *
                      generalize x 5 = x5 at *
                      generalize x 6 = x6 at *
                      generalize x 7 = x7 at *
                      generalize x 8 = x8 at *
                      generalize x 9 = x9 at *
                      go_simp
                      exact hK _ _ (Below.refl _ _) rfl
                    · simp only [puts, Act.put, List.setIfInBounds_toArray, List.set_cons_zero, List.set_cons_succ, Nat.reduceAdd, Nat.zero_add] at hK ⊢
                      clear hd
                      generalize x 0 = x0 at *
                      generalize x 1 = x1 at *
                      generalize x 2 = x2 at *
                      generalize x 3 = x3 at *
                      generalize x 4 = x4 at *
                      generalize x 5 = x5 at *
                      generalize x 6 = x6 at *
                      generalize x 7 = x7 at *
                      generalize x 8 = x8 at *
                      generalize x 9 = x9 at *
                      go_simp
                      exact hK _ _ (Below.refl _ _) rfl
                    · simp only [puts, Act.put, List.setIfInBounds_toArray, List.set_cons_zero, List.set_cons_succ, Nat.reduceAdd, Nat.zero_add] at hK ⊢
                      have d3 : x 3 = .string S := hd 3 (by decide)
                      have d4 : x 4 = .int .i64 k := hd 4 (by decide)
                      clear hd
                      generalize x 0 = x0 at *
                      generalize x 1 = x1 at *
                      generalize x 2 = x2 at *
                      generalize x 3 = x3 at *
                      generalize x 4 = x4 at *
                      generalize x 5 = x5 at *
                      generalize x 6 = x6 at *
                      generalize x 7 = x7 at *
                      generalize x 8 = x8 at *
                      generalize x 9 = x9 at *
                      subst d3
                      subst d4
                      go_simp
                      exact hK _ _ (Below.refl _ _) rfl
                    · simp only [puts, Act.put, List.setIfInBounds_toArray, List.set_cons_zero, List.set_cons_succ, Nat.reduceAdd, Nat.zero_add] at hK ⊢
                      have d5 : x 5 = .int .u8 xd := hd 5 (by decide)
                      clear hd
                      generalize x 0 = x0 at *
                      generalize x 1 = x1 at *
                      generalize x 2 = x2 at *
                      generalize x 3 = x3 at *
                      generalize x 4 = x4 at *
                      generalize x 5 = x5 at *
                      generalize x 6 = x6 at *
                      generalize x 7 = x7 at *
                      generalize x 8 = x8 at *
                      generalize x 9 = x9 at *
                      subst d5
                      have sw6 : IntKind.i64.wrap xd = xd := IntWalk.i64_in _ (by omega)
                      go_simp
                      exact hK _ _ (Below.refl _ _) rfl
                    · simp only [puts, Act.put, List.setIfInBounds_toArray, List.set_cons_zero, List.set_cons_succ, Nat.reduceAdd, Nat.zero_add] at hK ⊢
                      have d6 : x 6 = .int .i64 xd := hd 6 (by decide)
                      clear hd
                      generalize x 0 = x0 at *
                      generalize x 1 = x1 at *
                      generalize x 2 = x2 at *
                      generalize x 3 = x3 at *
                      generalize x 4 = x4 at *
                      generalize x 5 = x5 at *
                      generalize x 6 = x6 at *
                      generalize x 7 = x7 at *
                      generalize x 8 = x8 at *
                      generalize x 9 = x9 at *
                      subst d6
                      have sw : IntKind.i64.wrap (xd - 48) = xd - 48 := IntWalk.i64_in _ (by omega)
                      go_simp
                      exact hK _ _ (Below.refl _ _) rfl
                    · simp only [puts, Act.put, List.setIfInBounds_toArray, List.set_cons_zero, List.set_cons_succ, Nat.reduceAdd, Nat.zero_add] at hK ⊢
                      have d7 : x 7 = .int .i64 (xd - 48) := hd 7 (by decide)
                      clear hd
                      generalize x 0 = x0 at *
                      generalize x 1 = x1 at *
                      generalize x 2 = x2 at *
                      generalize x 3 = x3 at *
                      generalize x 4 = x4 at *
                      generalize x 5 = x5 at *
                      generalize x 6 = x6 at *
                      generalize x 7 = x7 at *
                      generalize x 8 = x8 at *
                      generalize x 9 = x9 at *
                      subst d7
                      go_simp
                      refine (of_any (xd - 48) _ FX.out).mono ?_
                      rintro e w2 ⟨v2, rfl, n2, b2⟩
                      exact hK v2 w2 b2 n2
                    · simp only [puts, Act.put, List.setIfInBounds_toArray, List.set_cons_zero, List.set_cons_succ, Nat.reduceAdd, Nat.zero_add] at hK ⊢
                      have d2 : NumIs W (x 2) (V * 10) := hd 2 (by decide)
                      have d8 : NumIs W (x 8) (xd - 48) := hd 8 (by decide)
                      clear hd
                      generalize x 0 = x0 at *
                      generalize x 1 = x1 at *
                      generalize x 2 = x2 at *
                      generalize x 3 = x3 at *
                      generalize x 4 = x4 at *
                      generalize x 5 = x5 at *
                      generalize x 6 = x6 at *
                      generalize x 7 = x7 at *
                      generalize x 8 = x8 at *
                      generalize x 9 = x9 at *
                      have D2 := hid d2
                      clear d2
                      have D8 := hid d8
                      clear d8
                      go_simp
                      refine (add_any _ _ (V * 10) (xd - 48) _ D2.out D8.out SV10.out FX.out.small).mono ?_
                      rintro e w2 ⟨v2, rfl, n2, b2⟩
                      exact hK v2 w2 b2 n2
                  · intro x W hB hd
                    have d9 : NumIs W (x 9) (V * 10 + (xd - 48)) := hd 9 (by decide)
                    clear hd
                    simp only [List.take_succ_cons, List.take_zero]
                    simp only [puts, Act.put, List.setIfInBounds_toArray, List.set_cons_zero, List.set_cons_succ, Nat.reduceAdd, Nat.zero_add]
                    generalize x 0 = x0 at *
                    generalize x 1 = x1 at *
                    generalize x 2 = x2 at *
                    generalize x 3 = x3 at *
                    generalize x 4 = x4 at *
                    generalize x 5 = x5 at *
                    generalize x 6 = x6 at *
                    generalize x 7 = x7 at *
                    generalize x 8 = x8 at *
                    generalize x 9 = x9 at *
                    have N9 := hid d9
                    obtain ⟨s9, d9', rfl, hr9, -⟩ := d9
                    obtain ⟨A9, c9, rfl, -⟩ := hr9
                    obtain ⟨q0, q1⟩ := hB.c2 mem0
                    have z0 := hB.fz mem0 0
                    have z1 := hB.fz mem0 1
                    have NA := hid (NumAt.put (show Blks w W _ from ⟨BW.out.trans (hB.bel.mono BW.out.size), hB.2⟩) (by omega) (by intro p hp; simp at hp; subst hp; simp) N9.out)
                    clear B N hI
                    go_simp
                    go_wp2_with fail
                    go_roundw
                    case rel => exact ⟨k + 1, _, _, by omega, by go_num, NA.out.2, by rw [VT.out]; exact NA.out.1, DK.out⟩
                    case measure => simp [intOf]; omega
                · have E := hid (P0.out (fun h => absurd h.2.1 (NT.out hx)))
                  obtain ⟨rfl, rfl⟩ : z = 0 ∧ ok = false := by have := E.out; injection this with e1 e2; exact ⟨e1, e2⟩
                  clear P0 P1 E HIX NT DK VT HP
                  obtain ⟨r0, r1⟩ := B.out.c2 mem1
                  have z0 := B.out.fz mem1 0
                  have z1 := B.out.fz mem1 1
                  by_cases hx48 : xd < 48
                  · go_wp2_with fail
                    exact bodyPost_ret (v := .tuple #[.agg #[.bool false, .slice none 0 0], .bool false]) (by simp [results, Tryd.results28, go_sem, r0, r1]) rfl ⟨_, rfl, num_zero _, below_set2 B.out.bel (by omega) _ _⟩
                  · have hx57 : 57 < xd := by omega
                    go_wp2_with fail
                    exact bodyPost_ret (v := .tuple #[.agg #[.bool false, .slice none 0 0], .bool false]) (by simp [results, Tryd.results28, go_sem, r0, r1]) rfl ⟨_, rfl, num_zero _, below_set2 B.out.bel (by omega) _ _⟩
              · have hkn : k = n := by omega
                subst hkn
                have ht : D.take k = D := List.take_of_length_le (by have := HD.out; omega)
                rw [ht] at N DG
                have PL := hid (HP.out DG.out)
                have E := hid (P1.out PL.out.1 PL.out.2 (by have := G40.out; have := HD.out; omega))
                obtain ⟨ez, eo⟩ := Prod.ext_iff.1 E.out
                have EZ := hid (show z = wsg false (dv D : Int) from ez)
                obtain rfl : ok = true := eo
                clear ez E P0 P1 HIX HP PL ht DG
                generalize (dv D : Int) = V at *
                obtain ⟨c0, c1⟩ := B.out.c2 mem0
                obtain ⟨r0, r1⟩ := B.out.c2 mem1
                have z0 := B.out.fz mem1 0
                have z1 := B.out.fz mem1 1
                go_wp2_with fail
                have M9 := NumIs.set2 N.out (B.out.at_ mem1) (.bool pb) (.slice sB q sc)
                exact bodyPost_ret (v := .tuple #[.agg #[.bool pb, .slice sB q sc], .bool true]) (by simp [results, Tryd.results28, go_sem, r0, r1]) rfl ⟨_, rfl, by rw [EZ.out]; exact M9, below_set2 B.out.bel (by omega) _ _⟩
          · rw [hb] at hI hb45
            go_enter Tryd.func28, Tryd.ntmps28
            go_wp2_with fail
            have HD := hid (show (b :: t).length = t.length + 1 from rfl)
            clear hI hE hb ht hb45
            have G40 := hid (show t.length + 1 ≤ 40 by omega)
            clear G1
            generalize b :: t = D at *
            obtain ⟨n, hn⟩ : ∃ n : Nat, n = t.length + 1 := ⟨_, rfl⟩
            rw [show (t.length : Int) + 1 = (n : Int) by omega] at hlt
            rw [← hn] at HD G40 HIX hS
            clear hn
            go_loopw [6] (fun i wr => RpAt w (w.heap.size + 1) [(w.heap.size, Obj.cells #[.bool false, .slice none 0 0] 34 (0, 0))] D n i wr) (fun i _ => n - (intOf i).toNat)
            case atStart => exact ⟨0, _, _, Nat.zero_le _, rfl, B.out, by rw [List.take_zero]; exact num_zero _, by simp⟩
            case round =>
              obtain ⟨k, bb, ss, hk, rfl, hB, hN, hdig⟩ := hrel
              replace B := hid hB
              have N := hid hN
              have DG := hid hdig
              obtain ⟨sA, sds, hv, hrr, -⟩ := hN
              obtain ⟨sB, sc, hsl, -⟩ := hrr
              subst hsl
              injection hv with hv
              injection hv with hv
              injection hv with hv1 hv2
              injection hv2 with hv2
              subst hv1 hv2
              clear hB hdig
              generalize sds.length = q at *
              generalize decide ((dv (D.take k) : Int) < 0) = pb at *
              by_cases hlt2 : k < n
              · have hI := HIX.out k hlt2
                have xb := dgt_byte D k
                have VT := hid (dv_take_succ (d := D) (k := k) (by have := HD.out; omega))
                have DK := hid (dig_take_succ (d := D) (k := k) (by have := HD.out; omega) DG.out)
                have NT := hid (not_dig (d := D) (k := k) (by have := HD.out; omega))
                have VL := hid (dv40 DG.out (by rw [List.length_take]; have := G40.out; have := HD.out; omega))
                generalize dgt D k = xd at *
                by_cases hx : 48 ≤ xd ∧ xd ≤ 57
                · obtain ⟨x0, x1⟩ := hx
                  replace VT := hid (VT.out x0)
                  replace DK := hid (DK.out ⟨x0, x1⟩)
                  have FX := hid (show Fits (xd - 48) from ⟨by omega, by omega⟩)
                  clear NT HIX
                  have hx1 : ¬ xd < 48 := by omega
                  have hx2 : ¬ 57 < xd := by omega
                  generalize hV : (dv (D.take k) : Int) = V at *
                  have SV := hid (show Small V from small_of (by have := VL.out; omega))
                  have SV10 := hid (show Small (V * 10) from small_of (by have := VL.out; omega))
                  clear hV VL
                  go_upto_region 12 with fail
                  generalize Value.bool pb = bb at *
                  generalize Value.slice sB q sc = ss at *
                  have BW := hid B.out.bel
                  replace B := hid (show Blks wr wr [(w.heap.size + 1, Obj.cells #[bb, ss] 34 (0, 0)), (w.heap.size, Obj.cells #[.bool false, .slice none 0 0] 34 (0, 0))] from ⟨Below.refl _ _, B.out.2⟩)
                  refine wp_region_each wr [(w.heap.size + 1, Obj.cells #[bb, ss] 34 (0, 0)), (w.heap.size, Obj.cells #[.bool false, .slice none 0 0] 34 (0, 0))] 10 (rpφ bb ss S k xd V) B.out _ rfl (by kernel_rfl) (by kernel_rfl) (rpφ_stable bb ss S k xd V) ?_ ?_
                  · simp only [List.take_succ_cons, List.take_zero]
                    refine ⟨fun x W K hB hd hK => ?_, fun x W K hB hd hK => ?_, fun x W K hB hd hK => ?_, fun x W K hB hd hK => ?_, fun x W K hB hd hK => ?_, fun x W K hB hd hK => ?_, fun x W K hB hd hK => ?_, fun x W K hB hd hK => ?_, fun x W K hB hd hK => ?_, fun x W K hB hd hK => ?_, trivial⟩
                    · simp only [puts, Act.put, List.setIfInBounds_toArray, List.set_cons_zero, List.set_cons_succ, Nat.reduceAdd, Nat.zero_add] at hK ⊢
                      clear hd
                      generalize x 0 = x0 at *
                      generalize x 1 = x1 at *
                      generalize x 2 = x2 at *
                      generalize x 3 = x3 at *
                      generalize x 4 = x4 at *
                      generalize x 5 = x5 at *
                      generalize x 6 = x6 at *
                      generalize x 7 = x7 at *
                      generalize x 8 = x8 at *
                      generalize x 9 = x9 at *
                      obtain ⟨c0, c1⟩ := hB.c2 mem0
                      go_simp
                      exact hK _ _ (Below.refl _ _) rfl
                    · simp only [puts, Act.put, List.setIfInBounds_toArray, List.set_cons_zero, List.set_cons_succ, Nat.reduceAdd, Nat.zero_add] at hK ⊢
                      clear hd
                      generalize x 0 = x0 at *
                      generalize x 1 = x1 at *
                      generalize x 2 = x2 at *
                      generalize x 3 = x3 at *
                      generalize x 4 = x4 at *
                      generalize x 5 = x5 at *
                      generalize x 6 = x6 at *
                      generalize x 7 = x7 at *
                      generalize x 8 = x8 at *
                      generalize x 9 = x9 at *
                      go_simp
                      refine (of_any 10 _ ⟨by decide, by decide⟩).mono ?_
                      rintro e w2 ⟨v2, rfl, n2, b2⟩
                      exact hK v2 w2 b2 n2
                    · simp only [puts, Act.put, List.setIfInBounds_toArray, List.set_cons_zero, List.set_cons_succ, Nat.reduceAdd, Nat.zero_add] at hK ⊢
                      have d0 : x 0 = .agg #[bb, ss] := hd 0 (by decide)
                      have d1 : NumIs W (x 1) 10 := hd 1 (by decide)
                      clear hd
                      generalize x 0 = x0 at *
                      generalize x 1 = x1 at *
                      generalize x 2 = x2 at *
                      generalize x 3 = x3 at *
                      generalize x 4 = x4 at *
                      generalize x 5 = x5 at *
                      generalize x 6 = x6 at *
                      generalize x 7 = x7 at *
                      generalize x 8 = x8 at *
                      generalize x 9 = x9 at *
                      subst d0
                      have D1 := hid d1
                      clear d1
                      go_simp
                      refine (mul_any _ _ V 10 _ (N.out.below hB.bel) D1.out SV.out (small_of (by decide))).mono ?_
                      rintro e w2 ⟨v2, rfl, n2, b2⟩
                      exact hK v2 w2 b2 n2
                    · simp only [puts, Act.put, List.setIfInBounds_toArray, List.set_cons_zero, List.set_cons_succ, Nat.reduceAdd, Nat.zero_add] at hK ⊢
                      clear hd
                      generalize x 0 = x0 at *
                      generalize x 1 = x1 at *
                      generalize x 2 = x2 at *
                      generalize x 3 = x3 at *
                      generalize x 4 = x4 at *
                      generalize x 5 = x5 at *
                      generalize x 6 = x6 at *
                      generalize x 7 = x7 at *
                      generalize x 8 = x8 at *
                      generalize x 9 = x9 at *
                      go_simp
                      exact hK _ _ (Below.refl _ _) rfl
                    · simp only [puts, Act.put, List.setIfInBounds_toArray, List.set_cons_zero, List.set_cons_succ, Nat.reduceAdd, Nat.zero_add] at hK ⊢
                      clear hd
                      generalize x 0 = x0 at *
                      generalize x 1 = x1 at *
                      generalize x 2 = x2 at *
                      generalize x 3 = x3 at *
                      generalize x 4 = x4 at *
                      generalize x 5 = x5 at *
                      generalize x 6 = x6 at *
                      generalize x 7 = x7 at *
                      generalize x 8 = x8 at *
                      generalize x 9 = x9 at *
                      go_simp
                      exact hK _ _ (Below.refl _ _) rfl
                    · simp only [puts, Act.put, List.setIfInBounds_toArray, List.set_cons_zero, List.set_cons_succ, Nat.reduceAdd, Nat.zero_add] at hK ⊢
                      have d3 : x 3 = .string S := hd 3 (by decide)
                      have d4 : x 4 = .int .i64 k := hd 4 (by decide)
                      clear hd
                      generalize x 0 = x0 at *
                      generalize x 1 = x1 at *
                      generalize x 2 = x2 at *
                      generalize x 3 = x3 at *
                      generalize x 4 = x4 at *
                      generalize x 5 = x5 at *
                      generalize x 6 = x6 at *
                      generalize x 7 = x7 at *
                      generalize x 8 = x8 at *
                      generalize x 9 = x9 at *
                      subst d3
                      subst d4
                      go_simp
                      exact hK _ _ (Below.refl _ _) rfl
                    · simp only [puts, Act.put, List.setIfInBounds_toArray, List.set_cons_zero, List.set_cons_succ, Nat.reduceAdd, Nat.zero_add] at hK ⊢
                      have d5 : x 5 = .int .u8 xd := hd 5 (by decide)
                      clear hd
                      generalize x 0 = x0 at *
                      generalize x 1 = x1 at *
                      generalize x 2 = x2 at *
                      generalize x 3 = x3 at *
                      generalize x 4 = x4 at *
                      generalize x 5 = x5 at *
                      generalize x 6 = x6 at *
                      generalize x 7 = x7 at *
                      generalize x 8 = x8 at *
                      generalize x 9 = x9 at *
                      subst d5
                      have sw6 : IntKind.i64.wrap xd = xd := IntWalk.i64_in _ (by omega)
                      go_simp
                      exact hK _ _ (Below.refl _ _) rfl
                    · simp only [puts, Act.put, List.setIfInBounds_toArray, List.set_cons_zero, List.set_cons_succ, Nat.reduceAdd, Nat.zero_add] at hK ⊢
                      have d6 : x 6 = .int .i64 xd := hd 6 (by decide)
                      clear hd
                      generalize x 0 = x0 at *
                      generalize x 1 = x1 at *
                      generalize x 2 = x2 at *
                      generalize x 3 = x3 at *
                      generalize x 4 = x4 at *
                      generalize x 5 = x5 at *
                      generalize x 6 = x6 at *
                      generalize x 7 = x7 at *
                      generalize x 8 = x8 at *
                      generalize x 9 = x9 at *
                      subst d6
                      have sw : IntKind.i64.wrap (xd - 48) = xd - 48 := IntWalk.i64_in _ (by omega)
                      go_simp
                      exact hK _ _ (Below.refl _ _) rfl
                    · simp only [puts, Act.put, List.setIfInBounds_toArray, List.set_cons_zero, List.set_cons_succ, Nat.reduceAdd, Nat.zero_add] at hK ⊢
                      have d7 : x 7 = .int .i64 (xd - 48) := hd 7 (by decide)
                      clear hd
                      generalize x 0 = x0 at *
                      generalize x 1 = x1 at *
                      generalize x 2 = x2 at *
                      generalize x 3 = x3 at *
                      generalize x 4 = x4 at *
                      generalize x 5 = x5 at *
                      generalize x 6 = x6 at *
                      generalize x 7 = x7 at *
                      generalize x 8 = x8 at *
                      generalize x 9 = x9 at *
                      subst d7
                      go_simp
                      refine (of_any (xd - 48) _ FX.out).mono ?_
                      rintro e w2 ⟨v2, rfl, n2, b2⟩
                      exact hK v2 w2 b2 n2
                    · simp only [puts, Act.put, List.setIfInBounds_toArray, List.set_cons_zero, List.set_cons_succ, Nat.reduceAdd, Nat.zero_add] at hK ⊢
                      have d2 : NumIs W (x 2) (V * 10) := hd 2 (by decide)
                      have d8 : NumIs W (x 8) (xd - 48) := hd 8 (by decide)
                      clear hd
                      generalize x 0 = x0 at *
                      generalize x 1 = x1 at *
                      generalize x 2 = x2 at *
                      generalize x 3 = x3 at *
                      generalize x 4 = x4 at *
                      generalize x 5 = x5 at *
                      generalize x 6 = x6 at *
                      generalize x 7 = x7 at *
                      generalize x 8 = x8 at *
                      generalize x 9 = x9 at *
                      have D2 := hid d2
                      clear d2
                      have D8 := hid d8
                      clear d8
                      go_simp
                      refine (add_any _ _ (V * 10) (xd - 48) _ D2.out D8.out SV10.out FX.out.small).mono ?_
                      rintro e w2 ⟨v2, rfl, n2, b2⟩
                      exact hK v2 w2 b2 n2
                  · intro x W hB hd
                    have d9 : NumIs W (x 9) (V * 10 + (xd - 48)) := hd 9 (by decide)
                    clear hd
                    simp only [List.take_succ_cons, List.take_zero]
                    simp only [puts, Act.put, List.setIfInBounds_toArray, List.set_cons_zero, List.set_cons_succ, Nat.reduceAdd, Nat.zero_add]
                    generalize x 0 = x0 at *
                    generalize x 1 = x1 at *
                    generalize x 2 = x2 at *
                    generalize x 3 = x3 at *
                    generalize x 4 = x4 at *
                    generalize x 5 = x5 at *
                    generalize x 6 = x6 at *
                    generalize x 7 = x7 at *
                    generalize x 8 = x8 at *
                    generalize x 9 = x9 at *
                    have N9 := hid d9
                    obtain ⟨s9, d9', rfl, hr9, -⟩ := d9
                    obtain ⟨A9, c9, rfl, -⟩ := hr9
                    obtain ⟨q0, q1⟩ := hB.c2 mem0
                    have z0 := hB.fz mem0 0
                    have z1 := hB.fz mem0 1
                    have NA := hid (NumAt.put (show Blks w W _ from ⟨BW.out.trans (hB.bel.mono BW.out.size), hB.2⟩) (by omega) (by intro p hp; simp at hp; subst hp; simp) N9.out)
                    clear B N hI
                    go_simp
                    go_wp2_with fail
                    go_roundw
                    case rel => exact ⟨k + 1, _, _, by omega, by go_num, NA.out.2, by rw [VT.out]; exact NA.out.1, DK.out⟩
                    case measure => simp [intOf]; omega
                · have E := hid (P0.out (fun h => absurd h.2.1 (NT.out hx)))
                  obtain ⟨rfl, rfl⟩ : z = 0 ∧ ok = false := by have := E.out; injection this with e1 e2; exact ⟨e1, e2⟩
                  clear P0 P1 E HIX NT DK VT HP
                  obtain ⟨r0, r1⟩ := B.out.c2 mem1
                  have z0 := B.out.fz mem1 0
                  have z1 := B.out.fz mem1 1
                  by_cases hx48 : xd < 48
                  · go_wp2_with fail
                    exact bodyPost_ret (v := .tuple #[.agg #[.bool false, .slice none 0 0], .bool false]) (by simp [results, Tryd.results28, go_sem, r0, r1]) rfl ⟨_, rfl, num_zero _, below_set2 B.out.bel (by omega) _ _⟩
                  · have hx57 : 57 < xd := by omega
                    go_wp2_with fail
                    exact bodyPost_ret (v := .tuple #[.agg #[.bool false, .slice none 0 0], .bool false]) (by simp [results, Tryd.results28, go_sem, r0, r1]) rfl ⟨_, rfl, num_zero _, below_set2 B.out.bel (by omega) _ _⟩
              · have hkn : k = n := by omega
                subst hkn
                have ht : D.take k = D := List.take_of_length_le (by have := HD.out; omega)
                rw [ht] at N DG
                have PL := hid (HP.out DG.out)
                have E := hid (P1.out PL.out.1 PL.out.2 (by have := G40.out; have := HD.out; omega))
                obtain ⟨ez, eo⟩ := Prod.ext_iff.1 E.out
                have EZ := hid (show z = wsg false (dv D : Int) from ez)
                obtain rfl : ok = true := eo
                clear ez E P0 P1 HIX HP PL ht DG
                generalize (dv D : Int) = V at *
                obtain ⟨c0, c1⟩ := B.out.c2 mem0
                obtain ⟨r0, r1⟩ := B.out.c2 mem1
                have z0 := B.out.fz mem1 0
                have z1 := B.out.fz mem1 1
                go_wp2_with fail
                have M9 := NumIs.set2 N.out (B.out.at_ mem1) (.bool pb) (.slice sB q sc)
                exact bodyPost_ret (v := .tuple #[.agg #[.bool pb, .slice sB q sc], .bool true]) (by simp [results, Tryd.results28, go_sem, r0, r1]) rfl ⟨_, rfl, by rw [EZ.out]; exact M9, below_set2 B.out.bel (by omega) _ _⟩
end Go.Proofs.YtjhekggeofalfaaDoor
