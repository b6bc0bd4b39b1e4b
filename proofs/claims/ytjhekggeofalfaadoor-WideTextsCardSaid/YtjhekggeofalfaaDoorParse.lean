/- Contract of wide.Parse. -/
import Derived.Test.YtjhekggeofalfaaDoorText
namespace Go.Proofs.YtjhekggeofalfaaDoor
open Go.RowKit

/-- What Parse answers: the number, and whether there is one. -/
noncomputable def pres (s : List UInt8) : Int × Bool := open Classical in
  match pval s with
  | some z => if Fits2 z then (z, true) else (0, false)
  | none => (0, false)
/-- The sign and the digits. -/
def pneg (s : List UInt8) : Bool := Lib.hasPrefix s [45]
def pdig (s : List UInt8) : List UInt8 := Lib.trimPrefix s [45]
theorem pneg_eq (s : List UInt8) : pneg s = decide (s.head? = some 45) := by
  unfold pneg Lib.hasPrefix
  cases s with
  | nil => rfl
  | cons a t =>
    show ((45 : UInt8) == a && List.isPrefixOf [] t) = decide (some a = some 45)
    by_cases h : a = 45
    · subst h; rw [decide_eq_true rfl]; rfl
    · rw [beq_eq_false_iff_ne.2 (Ne.symm h), decide_eq_false (fun e => h (by injection e))]; rfl
theorem pdig_eq (s : List UInt8) : pdig s = if pneg s then s.tail else s := by
  unfold pdig Lib.trimPrefix
  show (if pneg s = true then _ else _) = _
  split
  · cases s <;> rfl
  · rfl
theorem pdig_len (s : List UInt8) : (pdig s).length ≤ s.length := by
  rw [pdig_eq]; split
  · simp
  · exact Nat.le_refl _
theorem pval_parts (s : List UInt8) : pval s = open Classical in if Plain10 (pdig s) ∧ (pneg s = true → (pdig s).head? ≠ some 48) then some (if pneg s then -(dv (pdig s) : Int) else (dv (pdig s) : Int)) else none := by
  unfold pval
  have hn := pneg_eq s
  have hd := pdig_eq s
  by_cases h : s.head? = some 45
  · rw [decide_eq_true h] at hn
    rw [hn] at hd ⊢
    rw [if_pos rfl] at hd
    rw [if_pos h, hd]
    by_cases hp : Plain10 s.tail ∧ s.tail.head? ≠ some 48
    · rw [if_pos hp, if_pos ⟨hp.1, fun _ => hp.2⟩]; rfl
    · rw [if_neg hp, if_neg (fun t => hp ⟨t.1, t.2 rfl⟩)]
  · rw [decide_eq_false h] at hn
    rw [hn] at hd ⊢
    rw [if_neg (by decide)] at hd
    rw [if_neg h, hd]
    by_cases hp : Plain10 s
    · rw [if_pos hp, if_pos ⟨hp, fun t => by cases t⟩]; rfl
    · rw [if_neg hp, if_neg (fun t => hp t.1)]
/-- The number of a sign and digits. -/
def wsg (neg : Bool) (v : Int) : Int := if neg then -v else v
/-- Nothing is told by it. -/
theorem pres_no (s : List UInt8) (h : Plain10 (pdig s) → (pneg s = true → (pdig s).head? ≠ some 48) → ¬ Fits2 (wsg (pneg s) (dv (pdig s) : Int))) : pres s = (0, false) := by
  unfold pres
  rw [pval_parts]
  by_cases hp : Plain10 (pdig s) ∧ (pneg s = true → (pdig s).head? ≠ some 48)
  · rw [if_pos hp]
    exact if_neg (h hp.1 hp.2)
  · rw [if_neg hp]
theorem pres_yes (s : List UInt8) (h : Plain10 (pdig s)) (h2 : pneg s = true → (pdig s).head? ≠ some 48) (h3 : Fits2 (wsg (pneg s) (dv (pdig s) : Int))) :
    pres s = (wsg (pneg s) (dv (pdig s) : Int), true) := by
  unfold pres
  rw [pval_parts, if_pos ⟨h, h2⟩]
  exact if_pos h3

/-- A byte of the digits. -/
def dgt (d : List UInt8) (k : Nat) : Int := ((d.getD k 0).toNat : Int)
theorem index_at (d : List UInt8) (k : Nat) (hk : k < d.length) (W : World) : (Instr.index 9 (.string (⟨d.toArray⟩ : ByteArray)) (.int .i64 (k : Int))).run Tryd.prog W = .ok (.int .u8 (dgt d k)) W := by
  rw [run_index_string W 9 _ _ _ Tryd.underlying9, dif_pos ⟨by omega, by show (k : Int) < (d.toArray.size : Int); simp; omega⟩]
  unfold dgt
  rw [List.getD_eq_getElem?_getD, List.getElem?_eq_getElem hk]
  rfl
theorem dgt_byte (d : List UInt8) (k : Nat) : 0 ≤ dgt d k ∧ dgt d k ≤ 255 := by
  unfold dgt
  have := (d.getD k 0).toNat_lt
  omega
theorem dgt_in {d : List UInt8} {k : Nat} (h : k < d.length) : dgt d k = (d[k].toNat : Int) := by
  unfold dgt
  rw [List.getD_eq_getElem?_getD, List.getElem?_eq_getElem h]; rfl
theorem dv_take_succ {d : List UInt8} {k : Nat} (h : k < d.length) : 48 ≤ dgt d k → (dv (d.take (k + 1)) : Int) = (dv (d.take k) : Int) * 10 + (dgt d k - 48) := by
  rw [dgt_in h, List.take_succ_eq_append_getElem h, dv_app]
  omega
theorem dig_take_succ {d : List UInt8} {k : Nat} (h : k < d.length) (hd : ∀ b ∈ d.take k, isDig b) : 48 ≤ dgt d k ∧ dgt d k ≤ 57 → ∀ b ∈ d.take (k + 1), isDig b := by
  rw [dgt_in h, List.take_succ_eq_append_getElem h]
  intro hx b hb
  rcases List.mem_append.1 hb with hb | hb
  · exact hd b hb
  · rw [List.mem_singleton] at hb
    subst hb
    unfold isDig; omega
theorem not_dig {d : List UInt8} {k : Nat} (h : k < d.length) : ¬ (48 ≤ dgt d k ∧ dgt d k ≤ 57) → ¬ ∀ b ∈ d, isDig b := by
  rw [dgt_in h]
  intro hx hall
  have := hall d[k] (List.getElem_mem h)
  unfold isDig at this
  omega
theorem over_no {d : List UInt8} {i : Nat} {neg : Bool} (h : (340282366920938463463374607431768211456 : Int) ≤ (dv (d.take i) : Int)) : ¬ Fits2 (wsg neg (dv d : Int)) := by
  have h1 := dv_take i d
  unfold wsg
  rintro ⟨h2, h3⟩
  split at h2 <;> simp_all <;> omega
theorem fit_words {neg : Bool} {hi lo : Int} {V : Nat} (h : U64 lo) (hv : hi * 18446744073709551616 + lo = V) :
    (9223372036854775808 < hi ∨ hi = 9223372036854775808 ∧ (0 < lo ∨ neg = false) → ¬ Fits2 (wsg neg (V : Int))) ∧
    (¬ 9223372036854775808 < hi → (hi = 9223372036854775808 → ¬ 0 < lo ∧ neg = true) → Fits2 (wsg neg (V : Int)) ∧ hi * 18446744073709551616 + lo ≤ (if neg then 170141183460469231731687303715884105728 else 170141183460469231731687303715884105727)) := by
  obtain ⟨h1, h2⟩ := h
  unfold wsg
  cases neg with
  | true =>
    rw [if_pos rfl, if_pos rfl]
    unfold Fits2
    refine ⟨fun hh => ?_, fun h3 h4 => ?_⟩
    · rcases hh with hh | ⟨hh, hh | hh⟩
      · omega
      · omega
      · cases hh
    · by_cases h5 : hi = 9223372036854775808
      · have := h4 h5; omega
      · omega
  | false =>
    rw [if_neg (by decide), if_neg (by decide)]
    unfold Fits2
    refine ⟨fun hh => ?_, fun h3 h4 => ?_⟩
    · rcases hh with hh | ⟨hh, -⟩ <;> omega
    · by_cases h5 : hi = 9223372036854775808
      · cases (h4 h5).2
      · omega
/-- At the head of Parse's loop. -/
def ParseAt (d : List UInt8) (n : Nat) (h l i : Value) : Prop :=
  ∃ k : Nat, k ≤ n ∧ i = .int .i64 k ∧ h = .int .u64 ((dv (d.take k) : Int) / 18446744073709551616) ∧ l = .int .u64 ((dv (d.take k) : Int) % 18446744073709551616) ∧ (dv (d.take k) : Int) < 340282366920938463463374607431768211456 ∧ ∀ b ∈ d.take k, isDig b
set_option maxRecDepth 100000 in
set_option maxHeartbeats 1000000 in
theorem wideParse_any (s : List UInt8) (w : World) (hs : s.length ≤ 1000000) :
    Calls Tryd.prog 27 #[.string ⟨s.toArray⟩] w fun e w' => e = .returned (.tuple #[wideV (pres s).1, .bool (pres s).2]) ∧ Below w.heap.size w w' := by
  have hl := pdig_len s
  have HSL := hid hs
  clear hs
  have P0 := hid (pres_no s)
  have P1 := hid (pres_yes s)
  generalize pres s = R at *
  obtain ⟨z, ok⟩ := R
  show Calls Tryd.prog 27 #[.string ⟨s.toArray⟩] w fun e w' => e = .returned (.tuple #[wideV z, .bool ok]) ∧ Below w.heap.size w w'
  go_enter Tryd.func27, Tryd.ntmps27
  go_wp2_with fail
  refine (cutPrefix_any ⟨s.toArray⟩ ⟨#[45]⟩ _).mono ?_
  rw [show Lib.trimPrefix (⟨s.toArray⟩ : ByteArray).data.toList (⟨#[45]⟩ : ByteArray).data.toList = pdig s from rfl, show Lib.hasPrefix (⟨s.toArray⟩ : ByteArray).data.toList (⟨#[45]⟩ : ByteArray).data.toList = pneg s from rfl]
  rintro e w1 ⟨rfl, rfl⟩
  generalize pdig s = d at *
  generalize pneg s = neg at *
  cases d with
  | nil =>
    have E := hid (P0.out (fun h => absurd rfl h.1))
    clear P0 P1
    have hE : ((⟨([] : List UInt8).toArray⟩ : ByteArray) == ⟨#[]⟩) = true := rfl
    generalize (⟨([] : List UInt8).toArray⟩ : ByteArray) = S at *
    go_wp2_with fail
    exact bodyPost_ret (v := .tuple #[.agg #[.int .i64 0, .int .u64 0], .bool false]) (by simp [results, Tryd.results27, go_sem]) rfl ⟨by injection E.out with e1 e2; subst e1 e2; rfl, (Below.refl _ _).alloc (Nat.le_refl _) _⟩
  | cons b t =>
    have hE : (⟨(b :: t).toArray⟩ : ByteArray).toList.isEmpty = false := by rw [Lib.toList_data]; rfl
    have hS : (⟨(b :: t).toArray⟩ : ByteArray).size = t.length + 1 := rfl
    have HIX := hid (fun (k : Nat) (hk : k < t.length + 1) (W : World) => index_at (b :: t) k hk W)
    have hI : ∀ W, (Instr.index 9 (.string (⟨(b :: t).toArray⟩ : ByteArray)) (.int .i64 0)).run Tryd.prog W = .ok (.int .u8 (b.toNat : Int)) W := fun W => index_at (b :: t) 0 (by simp) W
    generalize (⟨(b :: t).toArray⟩ : ByteArray) = S at *
    by_cases G : b.toNat = 48 ∧ (neg = true ∨ 0 < t.length)
    · have E := hid (P0.out (fun h h2 => by
        have h48 : b = 48 := by rw [← UInt8.toNat_inj, G.1]; rfl
        rcases G.2 with hn | hl
        · exact absurd (by rw [h48]; rfl) (h2 hn)
        · have := h.2.2 (by rw [h48]; rfl)
          rw [List.length_cons] at this
          omega))
      clear P0 P1 HIX
      obtain ⟨hb, G⟩ := G
      rw [hb] at hI
      cases neg with
      | true =>
        go_wp2_with fail
        exact bodyPost_ret (v := .tuple #[.agg #[.int .i64 0, .int .u64 0], .bool false]) (by simp [results, Tryd.results27, go_sem]) rfl ⟨by injection E.out with e1 e2; subst e1 e2; rfl, (Below.refl _ _).alloc (Nat.le_refl _) _⟩
      | false =>
        have ht : 0 < t.length := by simpa using G
        go_wp2_with fail
        exact bodyPost_ret (v := .tuple #[.agg #[.int .i64 0, .int .u64 0], .bool false]) (by simp [results, Tryd.results27, go_sem]) rfl ⟨by injection E.out with e1 e2; subst e1 e2; rfl, (Below.refl _ _).alloc (Nat.le_refl _) _⟩
    · have HP := hid (show ∀ h : ∀ c ∈ b :: t, isDig c, Plain10 (b :: t) ∧ (neg = true → (b :: t).head? ≠ some 48) from fun h => by
        have hh : (b :: t).head? = some 48 → b.toNat = 48 := fun e => by
          have : b = 48 := by simpa using e
          rw [this]; rfl
        refine ⟨⟨by simp, h, fun e => ?_⟩, fun hn e => G ⟨hh e, .inl hn⟩⟩
        rw [List.length_cons]
        have : ¬ 0 < t.length := fun l => G ⟨hh e, .inr l⟩
        omega)
      have HG : b.toNat ≠ 48 ∨ (b.toNat = 48 ∧ neg = false ∧ t.length = 0) := by
        by_cases hb : b.toNat = 48
        · refine .inr ⟨hb, ?_, ?_⟩
          · cases neg with
            | true => exact absurd ⟨hb, .inl rfl⟩ G
            | false => rfl
          · exact Nat.eq_zero_of_not_pos fun h => G ⟨hb, .inr h⟩
        · exact .inl hb
      clear G
      have B0 := hid ((Blks.nil w).add (.cells #[.int .i64 0, .int .u64 0] 24))
      rcases HG with hb | ⟨hb, hneg, ht⟩
      · have hb2 : ((b.toNat : Int) == 48) = false := beq_eq_false_iff_ne.2 (by omega)
        go_wp2_with fail
        clear hb2 hb hI hE
        have HD := hid (show (b :: t).length = t.length + 1 from rfl)
        generalize b :: t = D at *
        generalize t.length + 1 = n at *
        have hn : (n : Int) ≤ 1000000 := by have := HD.out; have := HSL.out; omega
        go_loop [6, 7, 8] (fun h l i => ParseAt D n h l i) (fun _ _ i => n - (intOf i).toNat)
        case atStart => exact ⟨0, Nat.zero_le _, rfl, by rw [List.take_zero]; rfl, by rw [List.take_zero]; rfl, by rw [List.take_zero]; decide, by simp⟩
        case round =>
          obtain ⟨k, hk, rfl, rfl, rfl, hv, hdig⟩ := hrel
          have VL := hid hv
          have DG := hid hdig
          clear hv hdig
          by_cases hlt : k < n
          · have hI := HIX.out k hlt
            have xb := dgt_byte D k
            have VT := hid (dv_take_succ (d := D) (k := k) (by have := HD.out; omega))
            have DK := hid (dig_take_succ (d := D) (k := k) (by have := HD.out; omega) DG.out)
            have NT := hid (not_dig (d := D) (k := k) (by have := HD.out; omega))
            generalize dgt D k = x at *
            by_cases hx : 48 ≤ x ∧ x ≤ 57
            · obtain ⟨x0, x1⟩ := hx
              replace VT := hid (VT.out x0)
              replace DK := hid (DK.out ⟨x0, x1⟩)
              clear NT HIX
              generalize dv (D.take k) = V at *
              go_upto_if 43 with fail
              have y0 : 0 ≤ x - 48 := by omega
              have y1 : x - 48 ≤ 9 := by omega
              generalize x - 48 = y at *
              clear x0 x1 hI
              have VH := hid (show U64 ((V : Int) / 18446744073709551616) from ⟨by omega, by have := VL.out; omega⟩)
              have VO := hid (show U64 ((V : Int) % 18446744073709551616) from ⟨by omega, by omega⟩)
              have VV := hid (show (V : Int) / 18446744073709551616 * 18446744073709551616 + (V : Int) % 18446744073709551616 = V by omega)
              generalize (V : Int) / 18446744073709551616 = vh at *
              generalize (V : Int) % 18446744073709551616 = vl at *
              have t9 : ¬ 9 < y := by omega
              rw [decide_eq_false t9]
              clear t9
              go_wp2_with fail
              refine (shift_any vh vl y _ VH.out VO.out y0 y1).mono ?_
              rw [VV.out]
              clear VH VO VV y1
              by_cases ho : (V : Int) * 10 + y < 340282366920938463463374607431768211456
              · rw [decide_eq_true ho]
                have HH := hid (show (V * 10 + y) / 18446744073709551616 % 18446744073709551616 = (V * 10 + y) / 18446744073709551616 by have := VL.out; omega)
                rintro e w' ⟨rfl, rfl⟩
                rw [HH.out]
                go_wp2_with fail
                go_round
                case rel => exact ⟨k + 1, by omega, by go_num, by rw [VT.out], by rw [VT.out], by rw [VT.out]; exact ho, DK.out⟩
                case measure => simp [intOf]; omega
              · rw [decide_eq_false ho]
                have E := hid (P0.out (fun _ _ h2 => over_no (i := k + 1) (by rw [VT.out]; omega) h2))
                clear P0 P1
                rintro e w' ⟨rfl, rfl⟩
                go_wp2_with fail
                exact bodyPost_ret (v := .tuple #[.agg #[.int .i64 0, .int .u64 0], .bool false]) (by simp [results, Tryd.results27, go_sem]) rfl ⟨by injection E.out with e1 e2; subst e1 e2; rfl, (Below.refl _ _).alloc (Nat.le_refl _) _⟩
            · have E := hid (P0.out (fun h => absurd (h.2.1) (NT.out hx)))
              clear P0 P1
              have hx2 : 9 < (x - 48) % 256 := by omega
              clear NT DK VT HIX
              go_wp2_with fail
              exact bodyPost_ret (v := .tuple #[.agg #[.int .i64 0, .int .u64 0], .bool false]) (by simp [results, Tryd.results27, go_sem]) rfl ⟨by injection E.out with e1 e2; subst e1 e2; rfl, (Below.refl _ _).alloc (Nat.le_refl _) _⟩
          · have hkn : k = n := by omega
            subst hkn
            have ht : D.take k = D := List.take_of_length_le (by have := HD.out; omega)
            rw [ht] at VL DG ⊢
            have PL := hid (HP.out DG.out)
            clear HP DG HIX
            generalize dv D = V at *
            have VH := hid (show U64 ((V : Int) / 18446744073709551616) from ⟨by omega, by have := VL.out; omega⟩)
            have VO := hid (show U64 ((V : Int) % 18446744073709551616) from ⟨by omega, by omega⟩)
            have VV := hid (show (V : Int) / 18446744073709551616 * 18446744073709551616 + (V : Int) % 18446744073709551616 = V by omega)
            generalize (V : Int) / 18446744073709551616 = vh at *
            generalize (V : Int) % 18446744073709551616 = vl at *
            have F := hid (fit_words (neg := neg) VO.out VV.out)
            by_cases c1 : 9223372036854775808 < vh
            · have E := hid (P0.out (fun _ _ => F.out.1 (.inl c1)))
              clear P0 P1 F
              go_wp2_with fail
              exact bodyPost_ret (v := .tuple #[.agg #[.int .i64 0, .int .u64 0], .bool false]) (by simp [results, Tryd.results27, go_sem]) rfl ⟨by injection E.out with e1 e2; subst e1 e2; rfl, (Below.refl _ _).alloc (Nat.le_refl _) _⟩
            · by_cases c2 : vh = 9223372036854775808
              · subst c2
                by_cases c3 : 0 < vl
                · have E := hid (P0.out (fun _ _ => F.out.1 (.inr ⟨rfl, .inl c3⟩)))
                  clear P0 P1 F
                  go_wp2_with fail
                  exact bodyPost_ret (v := .tuple #[.agg #[.int .i64 0, .int .u64 0], .bool false]) (by simp [results, Tryd.results27, go_sem]) rfl ⟨by injection E.out with e1 e2; subst e1 e2; rfl, (Below.refl _ _).alloc (Nat.le_refl _) _⟩
                · cases neg with
                  | false =>
                    have E := hid (P0.out (fun _ _ => F.out.1 (.inr ⟨rfl, .inr rfl⟩)))
                    clear P0 P1 F
                    go_wp2_with fail
                    exact bodyPost_ret (v := .tuple #[.agg #[.int .i64 0, .int .u64 0], .bool false]) (by simp [results, Tryd.results27, go_sem]) rfl ⟨by injection E.out with e1 e2; subst e1 e2; rfl, (Below.refl _ _).alloc (Nat.le_refl _) _⟩
                  | true =>
                    obtain ⟨ft, bd⟩ := F.out.2 c1 (fun _ => ⟨c3, rfl⟩)
                    have E := hid (Prod.ext_iff.1 (P1.out PL.out.1 PL.out.2 ft))
                    clear P0 P1 F ft
                    go_wp2_with fail
                    refine (signed_any _ vl true _ VH.out VO.out bd).mono ?_
                    rw [VV.out]
                    obtain ⟨ez, eo⟩ := E.out
                    rw [show (if true = true then -(V : Int) else (V : Int)) = z from ez.symm]
                    clear ez E
                    obtain rfl : ok = true := eo
                    unfold wideV
                    rintro e w' ⟨rfl, b1⟩
                    have B1 := hid (B0.out.below b1)
                    clear b1
                    obtain ⟨r0, r1⟩ := B1.out.c2 mem0
                    have z0 := B1.out.fz mem0 0
                    have z1 := B1.out.fz mem0 1
                    go_wp2_with fail
                    exact bodyPost_ret (v := .tuple #[.agg #[.int .i64 (z / 18446744073709551616), .int .u64 (z % 18446744073709551616)], .bool true]) (by simp [results, Tryd.results27, go_sem, r0, r1]) rfl ⟨rfl, below_set2 B1.out.bel (by omega) _ _⟩
              · have c4 : (vh == 9223372036854775808) = false := beq_eq_false_iff_ne.2 c2
                obtain ⟨ft, bd⟩ := F.out.2 c1 (fun h => absurd h c2)
                have E := hid (Prod.ext_iff.1 (P1.out PL.out.1 PL.out.2 ft))
                clear P0 P1 F ft
                go_wp2_with fail
                refine (signed_any _ vl neg _ VH.out VO.out bd).mono ?_
                rw [VV.out]
                obtain ⟨ez, eo⟩ := E.out
                rw [show (if neg = true then -(V : Int) else (V : Int)) = z from ez.symm]
                clear ez E
                obtain rfl : ok = true := eo
                unfold wideV
                rintro e w' ⟨rfl, b1⟩
                have B1 := hid (B0.out.below b1)
                clear b1
                obtain ⟨r0, r1⟩ := B1.out.c2 mem0
                have z0 := B1.out.fz mem0 0
                have z1 := B1.out.fz mem0 1
                go_wp2_with fail
                exact bodyPost_ret (v := .tuple #[.agg #[.int .i64 (z / 18446744073709551616), .int .u64 (z % 18446744073709551616)], .bool true]) (by simp [results, Tryd.results27, go_sem, r0, r1]) rfl ⟨rfl, below_set2 B1.out.bel (by omega) _ _⟩
      · rw [hb] at hI
        subst hneg
        go_wp2_with fail
        clear hb ht hI hE
        have HD := hid (show (b :: t).length = t.length + 1 from rfl)
        generalize b :: t = D at *
        generalize t.length + 1 = n at *
        have hn : (n : Int) ≤ 1000000 := by have := HD.out; have := HSL.out; omega
        go_loop [6, 7, 8] (fun h l i => ParseAt D n h l i) (fun _ _ i => n - (intOf i).toNat)
        case atStart => exact ⟨0, Nat.zero_le _, rfl, by rw [List.take_zero]; rfl, by rw [List.take_zero]; rfl, by rw [List.take_zero]; decide, by simp⟩
        case round =>
          obtain ⟨k, hk, rfl, rfl, rfl, hv, hdig⟩ := hrel
          have VL := hid hv
          have DG := hid hdig
          clear hv hdig
          by_cases hlt : k < n
          · have hI := HIX.out k hlt
            have xb := dgt_byte D k
            have VT := hid (dv_take_succ (d := D) (k := k) (by have := HD.out; omega))
            have DK := hid (dig_take_succ (d := D) (k := k) (by have := HD.out; omega) DG.out)
            have NT := hid (not_dig (d := D) (k := k) (by have := HD.out; omega))
            generalize dgt D k = x at *
            by_cases hx : 48 ≤ x ∧ x ≤ 57
            · obtain ⟨x0, x1⟩ := hx
              replace VT := hid (VT.out x0)
              replace DK := hid (DK.out ⟨x0, x1⟩)
              clear NT HIX
              generalize dv (D.take k) = V at *
              go_upto_if 43 with fail
              have y0 : 0 ≤ x - 48 := by omega
              have y1 : x - 48 ≤ 9 := by omega
              generalize x - 48 = y at *
              clear x0 x1 hI
              have VH := hid (show U64 ((V : Int) / 18446744073709551616) from ⟨by omega, by have := VL.out; omega⟩)
              have VO := hid (show U64 ((V : Int) % 18446744073709551616) from ⟨by omega, by omega⟩)
              have VV := hid (show (V : Int) / 18446744073709551616 * 18446744073709551616 + (V : Int) % 18446744073709551616 = V by omega)
              generalize (V : Int) / 18446744073709551616 = vh at *
              generalize (V : Int) % 18446744073709551616 = vl at *
              have t9 : ¬ 9 < y := by omega
              rw [decide_eq_false t9]
              clear t9
              go_wp2_with fail
              refine (shift_any vh vl y _ VH.out VO.out y0 y1).mono ?_
              rw [VV.out]
              clear VH VO VV y1
              by_cases ho : (V : Int) * 10 + y < 340282366920938463463374607431768211456
              · rw [decide_eq_true ho]
                have HH := hid (show (V * 10 + y) / 18446744073709551616 % 18446744073709551616 = (V * 10 + y) / 18446744073709551616 by have := VL.out; omega)
                rintro e w' ⟨rfl, rfl⟩
                rw [HH.out]
                go_wp2_with fail
                go_round
                case rel => exact ⟨k + 1, by omega, by go_num, by rw [VT.out], by rw [VT.out], by rw [VT.out]; exact ho, DK.out⟩
                case measure => simp [intOf]; omega
              · rw [decide_eq_false ho]
                have E := hid (P0.out (fun _ _ h2 => over_no (i := k + 1) (by rw [VT.out]; omega) h2))
                clear P0 P1
                rintro e w' ⟨rfl, rfl⟩
                go_wp2_with fail
                exact bodyPost_ret (v := .tuple #[.agg #[.int .i64 0, .int .u64 0], .bool false]) (by simp [results, Tryd.results27, go_sem]) rfl ⟨by injection E.out with e1 e2; subst e1 e2; rfl, (Below.refl _ _).alloc (Nat.le_refl _) _⟩
            · have E := hid (P0.out (fun h => absurd (h.2.1) (NT.out hx)))
              clear P0 P1
              have hx2 : 9 < (x - 48) % 256 := by omega
              clear NT DK VT HIX
              go_wp2_with fail
              exact bodyPost_ret (v := .tuple #[.agg #[.int .i64 0, .int .u64 0], .bool false]) (by simp [results, Tryd.results27, go_sem]) rfl ⟨by injection E.out with e1 e2; subst e1 e2; rfl, (Below.refl _ _).alloc (Nat.le_refl _) _⟩
          · have hkn : k = n := by omega
            subst hkn
            have ht : D.take k = D := List.take_of_length_le (by have := HD.out; omega)
            rw [ht] at VL DG ⊢
            have PL := hid (HP.out DG.out)
            clear HP DG HIX
            generalize dv D = V at *
            have VH := hid (show U64 ((V : Int) / 18446744073709551616) from ⟨by omega, by have := VL.out; omega⟩)
            have VO := hid (show U64 ((V : Int) % 18446744073709551616) from ⟨by omega, by omega⟩)
            have VV := hid (show (V : Int) / 18446744073709551616 * 18446744073709551616 + (V : Int) % 18446744073709551616 = V by omega)
            generalize (V : Int) / 18446744073709551616 = vh at *
            generalize (V : Int) % 18446744073709551616 = vl at *
            have F := hid (fit_words (neg := false) VO.out VV.out)
            by_cases c1 : 9223372036854775808 < vh
            · have E := hid (P0.out (fun _ _ => F.out.1 (.inl c1)))
              clear P0 P1 F
              go_wp2_with fail
              exact bodyPost_ret (v := .tuple #[.agg #[.int .i64 0, .int .u64 0], .bool false]) (by simp [results, Tryd.results27, go_sem]) rfl ⟨by injection E.out with e1 e2; subst e1 e2; rfl, (Below.refl _ _).alloc (Nat.le_refl _) _⟩
            · by_cases c2 : vh = 9223372036854775808
              · subst c2
                by_cases c3 : 0 < vl
                · have E := hid (P0.out (fun _ _ => F.out.1 (.inr ⟨rfl, .inl c3⟩)))
                  clear P0 P1 F
                  go_wp2_with fail
                  exact bodyPost_ret (v := .tuple #[.agg #[.int .i64 0, .int .u64 0], .bool false]) (by simp [results, Tryd.results27, go_sem]) rfl ⟨by injection E.out with e1 e2; subst e1 e2; rfl, (Below.refl _ _).alloc (Nat.le_refl _) _⟩
                · have E := hid (P0.out (fun _ _ => F.out.1 (.inr ⟨rfl, .inr rfl⟩)))
                  clear P0 P1 F
                  go_wp2_with fail
                  exact bodyPost_ret (v := .tuple #[.agg #[.int .i64 0, .int .u64 0], .bool false]) (by simp [results, Tryd.results27, go_sem]) rfl ⟨by injection E.out with e1 e2; subst e1 e2; rfl, (Below.refl _ _).alloc (Nat.le_refl _) _⟩
              · have c4 : (vh == 9223372036854775808) = false := beq_eq_false_iff_ne.2 c2
                obtain ⟨ft, bd⟩ := F.out.2 c1 (fun h => absurd h c2)
                have E := hid (Prod.ext_iff.1 (P1.out PL.out.1 PL.out.2 ft))
                clear P0 P1 F ft
                go_wp2_with fail
                refine (signed_any _ vl false _ VH.out VO.out bd).mono ?_
                rw [VV.out]
                obtain ⟨ez, eo⟩ := E.out
                rw [show (if false = true then -(V : Int) else (V : Int)) = z from ez.symm]
                clear ez E
                obtain rfl : ok = true := eo
                unfold wideV
                rintro e w' ⟨rfl, b1⟩
                have B1 := hid (B0.out.below b1)
                clear b1
                obtain ⟨r0, r1⟩ := B1.out.c2 mem0
                have z0 := B1.out.fz mem0 0
                have z1 := B1.out.fz mem0 1
                go_wp2_with fail
                exact bodyPost_ret (v := .tuple #[.agg #[.int .i64 (z / 18446744073709551616), .int .u64 (z % 18446744073709551616)], .bool true]) (by simp [results, Tryd.results27, go_sem, r0, r1]) rfl ⟨rfl, below_set2 B1.out.bel (by omega) _ _⟩
end Go.Proofs.YtjhekggeofalfaaDoor
