/- Contract of wide.Text. -/
import Derived.Test.YtjhekggeofalfaaDoorFmt
import Derived.Test.YtjhekggeofalfaaDoorDec
import Derived.Test.YtjhekggeofalfaaDoorDiv64W
namespace Go.Proofs.YtjhekggeofalfaaDoor
open Go.RowKit

theorem PowTab.below {w w' : World} (h : PowTab w) (hb : Below w.heap.size w w') : PowTab w' := Lib.tabBelow_of_tabIs h w' hb
theorem d64 {hi lo y : Int} (hl : U64 lo) (h0 : 0 ≤ hi) (h1 : hi < y) (hy1 : y ≤ 18446744073709551615) : D64 hi lo y := by
  by_cases h : hi = 0
  · subst h
    exact div64_zero lo y hl (by omega) hy1
  · exact div64_big hi lo y hl (by omega) h1 hy1
theorem neg_words {z : Int} (h : Fits2 z) (hz : z < 0) :
    (0 - IntKind.u64.wrap (z / 18446744073709551616) - (if 0 < z % 18446744073709551616 then 1 else 0)) % 18446744073709551616 = (z.natAbs : Int) / 18446744073709551616 ∧
      (0 - z % 18446744073709551616) % 18446744073709551616 = (z.natAbs : Int) % 18446744073709551616 := by
  obtain ⟨h1, h2⟩ := h
  rw [u64_wrap]
  split <;> omega
theorem pos_words {z : Int} (h : Fits2 z) (hz : ¬ z < 0) : IntKind.u64.wrap (z / 18446744073709551616) = (z.natAbs : Int) / 18446744073709551616 ∧ z % 18446744073709551616 = (z.natAbs : Int) % 18446744073709551616 := by
  obtain ⟨h1, h2⟩ := h
  rw [u64_wrap]
  omega
theorem dec_len19 {r : Int} (h0 : 0 ≤ r) (h1 : r < 10000000000000000000) : (Lib.decDigits r.toNat).length ≤ 19 ∧ 1 ≤ (Lib.decDigits r.toNat).length := by
  refine ⟨(dec_split 18 1 r.toNat (by decide) (by omega)).1, ?_⟩
  have := dec_ne r.toNat
  cases hx : Lib.decDigits r.toNat with
  | nil => exact absurd hx this
  | cons => simp

theorem dec_len20 {q : Int} (h : U64 q) : (Lib.decDigits q.toNat).length ≤ 20 := by
  obtain ⟨h1, h2⟩ := h
  exact (dec_split 19 1 q.toNat (by decide) (by omega)).1
theorem ba_app (a b : List UInt8) : (⟨a.toArray⟩ ++ ⟨b.toArray⟩ : ByteArray) = ⟨(a ++ b).toArray⟩ := by
  apply ByteArray.ext
  simp [ByteArray.data_append]
theorem repeat_zeros (n : Nat) : Lib.repeatL [48] n = List.replicate n 48 := by
  induction n with
  | zero => rfl
  | succ n ih => rw [List.replicate_succ, ← ih]; rfl
theorem itoa_signs (z : Int) : Lib.itoa z = if z < 0 then 45 :: Lib.decDigits z.natAbs else Lib.decDigits z.natAbs := by
  unfold Lib.itoa
  by_cases h : z < 0
  · rw [if_pos h, if_pos h]
  · rw [if_neg h, if_neg h, show z.toNat = z.natAbs by omega]
theorem text_short {z r : Int} {dl : List UInt8} (h : r = z.natAbs) (h0 : 0 ≤ r) (hd : Lib.decDigits r.toNat = dl) :
    (z < 0 → Ending.returned (.string (⟨#[45]⟩ ++ ⟨dl.toArray⟩)) = .returned (.string ⟨(Lib.itoa z).toArray⟩)) ∧ (¬ z < 0 → Ending.returned (.string (⟨#[]⟩ ++ ⟨dl.toArray⟩)) = .returned (.string ⟨(Lib.itoa z).toArray⟩)) := by
  have e : Lib.decDigits z.natAbs = dl := by rw [← hd]; congr 1; omega
  rw [itoa_signs, e]
  refine ⟨fun hz => ?_, fun hz => ?_⟩
  · rw [if_pos hz, show (⟨#[45]⟩ : ByteArray) = ⟨[45].toArray⟩ from rfl, ba_app]; rfl
  · rw [if_neg hz, show (⟨#[]⟩ : ByteArray) = ⟨([] : List UInt8).toArray⟩ from rfl, ba_app]; rfl
theorem text_long {z q r : Int} {dl : List UInt8} (h : q * 10000000000000000000 + r = z.natAbs) (h0 : 0 ≤ r) (h1 : r < 10000000000000000000) (hq : 0 < q) (hd : Lib.decDigits r.toNat = dl) :
    (z < 0 → Ending.returned (.string (⟨#[45]⟩ ++ ⟨(Lib.decDigits q.toNat).toArray⟩ ++ ⟨(Lib.repeatL [48] (19 - dl.length)).toArray⟩ ++ ⟨dl.toArray⟩)) = .returned (.string ⟨(Lib.itoa z).toArray⟩)) ∧
    (¬ z < 0 → Ending.returned (.string (⟨#[]⟩ ++ ⟨(Lib.decDigits q.toNat).toArray⟩ ++ ⟨(Lib.repeatL [48] (19 - dl.length)).toArray⟩ ++ ⟨dl.toArray⟩)) = .returned (.string ⟨(Lib.itoa z).toArray⟩)) := by
  have e : Lib.decDigits z.natAbs = Lib.decDigits q.toNat ++ (List.replicate (19 - dl.length) 48 ++ dl) := by
    have := (dec_split 18 q.toNat r.toNat (by omega) (by omega)).2
    rw [hd] at this
    rw [← this]
    congr 1
    omega
  rw [itoa_signs, e, repeat_zeros]
  refine ⟨fun hz => ?_, fun hz => ?_⟩
  · rw [if_pos hz, show (⟨#[45]⟩ : ByteArray) = ⟨[45].toArray⟩ from rfl, ba_app, ba_app, ba_app]; simp
  · rw [if_neg hz, show (⟨#[]⟩ : ByteArray) = ⟨([] : List UInt8).toArray⟩ from rfl, ba_app, ba_app, ba_app]; simp
set_option maxRecDepth 100000 in
set_option maxHeartbeats 1000000 in
theorem wideText_any (z : Int) (w : World) (h : Fits2 z) (htab : PowTab w) :
    Calls Tryd.prog 26 #[wideV z] w fun e w' => e = .returned (.string ⟨(Lib.itoa z).toArray⟩) ∧ Below w.heap.size w w' := by
  have HI := hi_fits h
  unfold wideV
  have B0 := hid ((Blks.nil w).add (.cells #[.int .i64 (z / 18446744073709551616), .int .u64 (z % 18446744073709551616)] 24))
  have N1 := hid (show (z.natAbs : Int) / 18446744073709551616 * 18446744073709551616 + (z.natAbs : Int) % 18446744073709551616 = z.natAbs by omega)
  have LO := hid (show U64 ((z.natAbs : Int) % 18446744073709551616) from ⟨by omega, by omega⟩)
  have DD := hid (d64 (hi := (z.natAbs : Int) / 18446744073709551616) (lo := (z.natAbs : Int) % 18446744073709551616) (y := 10000000000000000000) LO.out (by omega) (by obtain ⟨h1, h2⟩ := h; omega) (by decide))
  have FITS := hid h
  by_cases hz : z < 0
  · obtain ⟨n1, n2⟩ := neg_words h hz
    have W1 := hid n1
    have W2 := hid n2
    have hn : z / 18446744073709551616 < 0 := by omega
    clear n1 n2 h
    go_enter Tryd.func26, Tryd.ntmps26
    go_wp2_with fail
    go_quiet (fail)
    go_wp2_with fail
    refine (negate_any _ _ _ ⟨by rw [u64_wrap]; omega, by rw [u64_wrap]; omega⟩ ⟨by omega, by omega⟩).mono ?_
    rw [W1.out, W2.out]
    rintro e w' ⟨rfl, rfl⟩
    go_wp2_with fail
    refine (DD.out _).mono ?_
    rw [N1.out]
    have B1 := hid (B0.out.below (W' := ((w.alloc (.cells #[.int .i64 (z / 18446744073709551616), .int .u64 (z % 18446744073709551616)] 24)).drewN nq)) ⟨rfl, rfl, rfl, Nat.le_refl _, fun _ _ => rfl⟩)
    clear B0
    have QR := hid (show (z.natAbs : Int) / 10000000000000000000 * 10000000000000000000 + (z.natAbs : Int) % 10000000000000000000 = z.natAbs by omega)
    have r0 : 0 ≤ (z.natAbs : Int) % 10000000000000000000 ∧ (z.natAbs : Int) % 10000000000000000000 < 10000000000000000000 := by omega
    have q0 : 0 ≤ (z.natAbs : Int) / 10000000000000000000 ∧ (z.natAbs : Int) / 10000000000000000000 ≤ 18446744073709551615 := by obtain ⟨h1, h2⟩ := FITS.out; omega
    generalize (z.natAbs : Int) / 10000000000000000000 = q at *
    generalize (z.natAbs : Int) % 10000000000000000000 = r at *
    rintro e w1 ⟨rfl, b1⟩
    replace B1 := hid (B1.out.below b1)
    clear b1
    have RU := hid (show U64 r from ⟨r0.1, by omega⟩)
    have QU := hid (show U64 q from q0)
    have TB := fun W (hW : Below w.heap.size w W) => PowTab.below htab hW
    have TBH := hid TB
    clear TB htab N1 LO DD
    go_wp2_with fail
    refine (fmtUint_any r RU.out _ (TBH.out _ B1.out.bel)).mono ?_
    rintro e w2 ⟨rfl, b2⟩
    replace B1 := hid (B1.out.below b2)
    clear b2
    have DL := hid (dec_len19 r0.1 r0.2)
    generalize hdl : Lib.decDigits r.toNat = dl at *
    have HDL := hid hdl
    clear hdl
    obtain ⟨dl0, dl1⟩ := DL.out
    clear DL
    by_cases hq : q = 0
    · subst hq
      have FIN := hid (text_short (z := z) (r := r) (dl := dl) (by have := QR.out; omega) r0.1 HDL.out)
      clear QR QU HDL
      go_wp2_with fail
      go_ret
      exact ⟨FIN.out.1 hz, B1.out.bel⟩
    · have hq2 : (q == 0) = false := beq_eq_false_iff_ne.2 hq
      have FIN := hid (text_long (z := z) (q := q) (r := r) (dl := dl) QR.out r0.1 r0.2 (by omega) HDL.out)
      clear QR HDL
      go_wp2_with fail
      rw [show (19 - (dl.length : Int)) = ((19 - dl.length : Nat) : Int) by omega]
      refine (repeat_any ⟨#[48]⟩ (19 - dl.length) _ (by omega) (by show 1 * (19 - dl.length) ≤ _; omega)).mono ?_
      rw [show (⟨#[48]⟩ : ByteArray).data.toList = [48] from rfl]
      rintro e w3 ⟨rfl, b3⟩
      replace B1 := hid (B1.out.below b3)
      clear b3
      have zl : (Lib.repeatL [48] (19 - dl.length)).length ≤ 19 := by rw [repeat_zeros, List.length_replicate]; omega
      generalize Lib.repeatL [48] (19 - dl.length) = zs at *
      go_wp2_with fail
      refine (fmtUint_any q QU.out _ (TBH.out _ B1.out.bel)).mono ?_
      rintro e w4 ⟨rfl, b4⟩
      replace B1 := hid (B1.out.below b4)
      clear b4
      have ql : (Lib.decDigits q.toNat).length ≤ 20 := dec_len20 QU.out
      generalize Lib.decDigits q.toNat = qs at *
      go_wp2_with fail
      go_ret
      exact ⟨FIN.out.1 hz, B1.out.bel⟩
  · obtain ⟨n1, n2⟩ := pos_words h hz
    have W1 := hid n1
    have W2 := hid n2
    have hn : ¬ z / 18446744073709551616 < 0 := by omega
    clear n1 n2 h
    go_enter Tryd.func26, Tryd.ntmps26
    go_wp2_with fail
    go_quiet (fail)
    go_wp2_with fail
    refine calls_world (fun W => Hid (Blks w W [(w.heap.size, Obj.cells #[.int .i64 (z / 18446744073709551616), .int .u64 (z % 18446744073709551616)] 24 (0, 0))])) (B0.out.below ⟨rfl, rfl, rfl, Nat.le_refl _, fun _ _ => rfl⟩) ?_
    intro W0 B1
    clear B0
    rw [W1.out, W2.out]
    refine (DD.out _).mono ?_
    rw [N1.out]
    have QR := hid (show (z.natAbs : Int) / 10000000000000000000 * 10000000000000000000 + (z.natAbs : Int) % 10000000000000000000 = z.natAbs by omega)
    have r0 : 0 ≤ (z.natAbs : Int) % 10000000000000000000 ∧ (z.natAbs : Int) % 10000000000000000000 < 10000000000000000000 := by omega
    have q0 : 0 ≤ (z.natAbs : Int) / 10000000000000000000 ∧ (z.natAbs : Int) / 10000000000000000000 ≤ 18446744073709551615 := by obtain ⟨h1, h2⟩ := FITS.out; omega
    generalize (z.natAbs : Int) / 10000000000000000000 = q at *
    generalize (z.natAbs : Int) % 10000000000000000000 = r at *
    rintro e w1 ⟨rfl, b1⟩
    replace B1 := hid (B1.out.below b1)
    clear b1
    have RU := hid (show U64 r from ⟨r0.1, by omega⟩)
    have QU := hid (show U64 q from q0)
    have TB := fun W (hW : Below w.heap.size w W) => PowTab.below htab hW
    have TBH := hid TB
    clear TB htab N1 LO DD
    go_wp2_with fail
    refine (fmtUint_any r RU.out _ (TBH.out _ B1.out.bel)).mono ?_
    rintro e w2 ⟨rfl, b2⟩
    replace B1 := hid (B1.out.below b2)
    clear b2
    have DL := hid (dec_len19 r0.1 r0.2)
    generalize hdl : Lib.decDigits r.toNat = dl at *
    have HDL := hid hdl
    clear hdl
    obtain ⟨dl0, dl1⟩ := DL.out
    clear DL
    by_cases hq : q = 0
    · subst hq
      have FIN := hid (text_short (z := z) (r := r) (dl := dl) (by have := QR.out; omega) r0.1 HDL.out)
      clear QR QU HDL
      go_wp2_with fail
      go_ret
      exact ⟨FIN.out.2 hz, B1.out.bel⟩
    · have hq2 : (q == 0) = false := beq_eq_false_iff_ne.2 hq
      have FIN := hid (text_long (z := z) (q := q) (r := r) (dl := dl) QR.out r0.1 r0.2 (by omega) HDL.out)
      clear QR HDL
      go_wp2_with fail
      rw [show (19 - (dl.length : Int)) = ((19 - dl.length : Nat) : Int) by omega]
      refine (repeat_any ⟨#[48]⟩ (19 - dl.length) _ (by omega) (by show 1 * (19 - dl.length) ≤ _; omega)).mono ?_
      rw [show (⟨#[48]⟩ : ByteArray).data.toList = [48] from rfl]
      rintro e w3 ⟨rfl, b3⟩
      replace B1 := hid (B1.out.below b3)
      clear b3
      have zl : (Lib.repeatL [48] (19 - dl.length)).length ≤ 19 := by rw [repeat_zeros, List.length_replicate]; omega
      generalize Lib.repeatL [48] (19 - dl.length) = zs at *
      go_wp2_with fail
      refine (fmtUint_any q QU.out _ (TBH.out _ B1.out.bel)).mono ?_
      rintro e w4 ⟨rfl, b4⟩
      replace B1 := hid (B1.out.below b4)
      clear b4
      have ql : (Lib.decDigits q.toNat).length ≤ 20 := dec_len20 QU.out
      generalize Lib.decDigits q.toNat = qs at *
      go_wp2_with fail
      go_ret
      exact ⟨FIN.out.2 hz, B1.out.bel⟩
end Go.Proofs.YtjhekggeofalfaaDoor
