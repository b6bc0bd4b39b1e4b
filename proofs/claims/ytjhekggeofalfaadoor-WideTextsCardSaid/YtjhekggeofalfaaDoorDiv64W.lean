/- Contract of math/bits.Div64 where the high word is not 0. -/
import Derived.Test.YtjhekggeofalfaaDoorBitsW
import Derived.Test.YtjhekggeofalfaaDoorLz
import Derived.Test.YtjhekggeofalfaaDoorDig
import Derived.Test.YtjhekggeofalfaaDoorNorm
import Derived.Deep.DeepCutAuto
import Derived.Deep.CutBlock
namespace Go.Proofs.YtjhekggeofalfaaDoor
open Go.RowKit

theorem lz_norm {y : Int} (h0 : 0 < y) (h1 : y ≤ 18446744073709551615) :
    ∃ s : Nat, 64 - (Lib.bitLen y.toNat : Int) = s ∧ s ≤ 63 ∧ 9223372036854775808 ≤ y * 2 ^ s ∧ y * 2 ^ s ≤ 18446744073709551615 := by
  obtain ⟨n, rfl⟩ := Int.eq_ofNat_of_zero_le (show 0 ≤ y by omega)
  rw [Int.toNat_natCast]
  have hl : Lib.bitLen n ≤ 64 := Lib.bitLen_le n 64 (by omega) (by omega)
  obtain ⟨t1, t2⟩ := bitLen_top _ n rfl (by omega) (by omega)
  generalize Lib.bitLen n = b at *
  have hb : 1 ≤ b := by
    rcases Nat.eq_zero_or_pos b with hb | hb
    · subst hb; omega
    · exact hb
  refine ⟨64 - b, by omega, by omega, ?_⟩
  have e : 2 ^ b * 2 ^ (64 - b) = 18446744073709551616 := by
    rw [← Nat.pow_add, show b + (64 - b) = 64 by omega]
  have pp : 0 < 2 ^ (64 - b) := Nat.pow_pos (by decide)
  have a1 := Nat.mul_lt_mul_of_pos_right t1 pp
  have a2 := Nat.mul_le_mul_right (2 ^ (64 - b)) t2
  have e3 : ((n : Int) * 2 ^ (64 - b)) = ((n * 2 ^ (64 - b) : Nat) : Int) := by simp
  rw [e3]
  rw [Nat.mul_assoc] at a2
  generalize n * 2 ^ (64 - b) = m at *
  omega

/-- At the head of a half word's loop. -/
def DigAt (h l u d : Int) (a b : Value) : Prop :=
  ∃ q r : Int, a = .int .u64 q ∧ b = .int .u64 r ∧ 0 ≤ q ∧ q ≤ 18446744073709551615 ∧ 0 ≤ r ∧ r < 4294967296 ∧ q * h + r = u ∧ (u * 4294967296 + d) / (h * 4294967296 + l) ≤ q
/-- The next guess. -/
theorem dig_next {h l u d q r : Int} (b1 : 2147483648 ≤ h) (b3 : 0 ≤ l) (b4 : l < 4294967296) (b6 : u < h * 4294967296 + l) (b7 : 0 ≤ d) (qr : q * h + r = u) (q0 : 0 ≤ (u * 4294967296 + d) / (h * 4294967296 + l))
    (too : u * 4294967296 + d < q * (h * 4294967296 + l)) :
    1 ≤ q ∧ (u * 4294967296 + d) / (h * 4294967296 + l) ≤ q - 1 ∧ (q - 1) * h + (r + h) = u ∧ (4294967296 ≤ r + h → q - 1 = (u * 4294967296 + d) / (h * 4294967296 + l)) := by
  have hY : 0 < h * 4294967296 + l := by omega
  have g := (dig_gt hY).1 too
  have e := dig_step qr
  refine ⟨by omega, by omega, e, fun hr => ?_⟩
  exact dig_done hY (by omega) (dig_big e b1 b3 b4 b6 hr (by omega) b7).2
theorem dig_wraps {l q r d : Int} (b3 : 0 ≤ l) (b4 : l < 4294967296) (q0 : 0 ≤ q) (q1 : q < 4294967296) (r0 : 0 ≤ r) (r1 : r < 4294967296) (b7 : 0 ≤ d) (b8 : d < 4294967296) :
    IntKind.u64.wrap (q * l) = q * l ∧ IntKind.u64.wrap (4294967296 * r) = 4294967296 * r ∧ IntKind.u64.wrap (4294967296 * r + d) = 4294967296 * r + d := by
  have a0 := Int.mul_nonneg q0 b3
  have a1 := Int.mul_le_mul_of_nonneg_right (show q ≤ 4294967295 by omega) b3
  rw [u64_wrap, u64_wrap, u64_wrap]
  omega
theorem dig_un {u d Y : Int} (hY : 0 < Y) (hY2 : Y ≤ 18446744073709551616) :
    IntKind.u64.wrap (IntKind.u64.wrap (IntKind.u64.wrap (u * 4294967296) + d) - IntKind.u64.wrap ((u * 4294967296 + d) / Y * Y)) = (u * 4294967296 + d) % Y := by
  rw [u64_wrap, u64_wrap, u64_wrap, u64_wrap, ← dig_rest hY hY2 rfl]
  rw [show (u * 4294967296 % 18446744073709551616 + d) % 18446744073709551616 = (u * 4294967296 + d) % 18446744073709551616 by omega]
theorem dig_rhat {u h : Int} (s1 : u / h * h + u % h = u) (s2 : 0 ≤ u % h) (s3 : u % h < h) (b2 : h < 4294967296) : IntKind.u64.wrap (u - IntKind.u64.wrap (u / h * h)) = u % h := by
  rw [u64_wrap, u64_wrap]
  generalize u / h * h = P at *
  omega

set_option maxRecDepth 20000 in
set_option maxHeartbeats 2000000 in
theorem div64_big (hi lo y : Int) (hl : U64 lo) (h0 : 1 ≤ hi) (h1 : hi < y) (hy1 : y ≤ 18446744073709551615) : D64 hi lo y := by
  intro w
  obtain ⟨l0, l1⟩ := hl
  go_enter Tryd.func48, Tryd.ntmps48
  go_wp2_with fail
  refine (lz64_any y _ (by omega) hy1).mono ?_
  obtain ⟨s, hs, S1, t0, t1⟩ := lz_norm (show 0 < y by omega) hy1
  rw [hs]
  obtain ⟨h, l, u, d1, d0, nf⟩ := norm_of S1 (show 0 ≤ hi by omega) h1 l0 l1 t0 t1
  have NF := hid nf
  obtain ⟨e1, e2, e3, b1, b2, b3, b4, b5, b6, b7, b8, b9, b10, -, -⟩ := nf
  have E1 := hid e1
  have E2 := hid e2
  have E3 := hid e3
  have E4 := hid (show (h * 4294967296 + l) / 4294967296 = h by omega)
  have E5 := hid (show bits .and .u64 (h * 4294967296 + l) 4294967295 = l by rw [u64_mask32 _ ⟨by omega, by omega⟩]; omega)
  have E6 := hid (show (d1 * 4294967296 + d0) / 4294967296 = d1 by omega)
  have E7 := hid (show bits .and .u64 (d1 * 4294967296 + d0) 4294967295 = d0 by rw [u64_mask32 _ ⟨by omega, by omega⟩]; omega)
  clear hs t0 t1 e1 e2 e3
  rintro e w' ⟨rfl, rfl⟩
  go_upto_region 15 with fail
  rw [E1.out, E2.out, E3.out, E4.out, E5.out, E6.out, E7.out]
  obtain ⟨s1, s2, s3, s4, s5⟩ := dig_start (d := d1) b1 b3 b5 b7 b8
  have S5 := hid s5
  have hY := hid (show (0 : Int) < h * 4294967296 + l by omega)
  have RH := hid (dig_rhat s1 s2 s3 b2)
  have QB := hid (dig_lt b5 b6 b7 b8)
  have u1 := Int.ediv_le_self h b5
  clear s5 E4 E5 E6 E7
  go_upto_block 0 with fail
  go_cut [15, 16] (fun v _ wr => v = .int .u64 ((u * 4294967296 + d1) / (h * 4294967296 + l)) ∧ wr = w')
  case first =>
    go_wp2_with fail
    go_loopw [15, 16] (fun a b wr => DigAt h l u d1 a b ∧ wr = w') (fun a _ _ => (intOf a).toNat)
    case atStart => exact ⟨⟨u / h, u % h, rfl, by rw [RH.out], s4, by omega, s2, by omega, s1, S5.out⟩, rfl⟩
    case round =>
      obtain ⟨⟨q, r, rfl, rfl, q0, q1, r0, r1, qr, qq⟩, rfl⟩ := hrel
      have QR := hid qr
      have QQ := hid qq
      clear qr qq
      have NX := hid (fun t => dig_next (d := d1) b1 b3 b4 b6 b7 QR.out QB.out.1 t)
      by_cases c1 : 4294967296 ≤ q
      · have too : u * 4294967296 + d1 < q * (h * 4294967296 + l) := (dig_gt hY.out).2 (by have := QB.out.2; omega)
        obtain ⟨k1, k2, k3, k4⟩ := NX.out too
        have K2 := hid k2
        have K3 := hid k3
        have K4 := hid k4
        clear k2 k3 k4 too
        by_cases c3 : 4294967296 ≤ r + h
        · go_wp2_with fail
          go_meet
          exact ⟨by rw [K4.out c3], rfl⟩
        · go_wp2_with fail
          go_roundw
          case rel => exact ⟨⟨q - 1, r + h, rfl, rfl, by omega, by omega, by omega, by omega, K3.out, K2.out⟩, trivial⟩
          case measure => simp [intOf]; omega
      · obtain ⟨w1, w2, w3⟩ := dig_wraps (d := d1) b3 b4 q0 (by omega) r0 r1 b7 b8
        by_cases c2 : 4294967296 * r + d1 < q * l
        · have too := (dig_test (d := d1) (l := l) QR.out).1 c2
          obtain ⟨k1, k2, k3, k4⟩ := NX.out too
          have K2 := hid k2
          have K3 := hid k3
          have K4 := hid k4
          clear k2 k3 k4 too
          by_cases c3 : 4294967296 ≤ r + h
          · go_wp2_with fail
            go_meet
            exact ⟨by rw [K4.out c3], rfl⟩
          · go_wp2_with fail
            go_roundw
            case rel => exact ⟨⟨q - 1, r + h, rfl, rfl, by omega, by omega, by omega, by omega, K3.out, K2.out⟩, trivial⟩
            case measure => simp [intOf]; omega
        · have no := fun t => c2 ((dig_test (d := d1) (l := l) QR.out).2 t)
          have QE := hid (dig_done hY.out QQ.out no)
          clear no
          go_wp2_with fail
          go_meet
          exact ⟨by rw [← QE.out], rfl⟩
  case rest =>
    obtain ⟨rfl, rfl⟩ := hcut
    go_upto_region 22 with fail
    rw [dig_un hY.out (by omega)]
    have TW := hid (dig_two (u := u) (d1 := d1) (d0 := d0) hY.out)
    have c5 := Int.emod_nonneg (u * 4294967296 + d1) (show h * 4294967296 + l ≠ 0 by have := hY.out; omega)
    have c6 := Int.emod_lt_of_pos (u * 4294967296 + d1) hY.out
    obtain ⟨qb0, qb1⟩ := QB.out
    generalize (u * 4294967296 + d1) / (h * 4294967296 + l) = Q1 at *
    generalize (u * 4294967296 + d1) % (h * 4294967296 + l) = v at *
    clear s1 s2 s3 s4 RH QB u1 S5
    obtain ⟨s1, s2, s3, s4, s5⟩ := dig_start (d := d0) b1 b3 c5 b9 b10
    have S5 := hid s5
    have RH := hid (dig_rhat s1 s2 s3 b2)
    have QB := hid (dig_lt c5 c6 b9 b10)
    have u1 := Int.ediv_le_self h c5
    clear s5
    go_upto_block 2 with fail
    go_cut [18, 16] (fun x _ wr => x = .int .u64 ((v * 4294967296 + d0) / (h * 4294967296 + l)) ∧ wr = wc)
    case first =>
      go_wp2_with fail
      go_loopw [18, 16] (fun a b wr => DigAt h l v d0 a b ∧ wr = wc) (fun a _ _ => (intOf a).toNat)
      case atStart => exact ⟨⟨v / h, v % h, rfl, by rw [RH.out], s4, by omega, s2, by omega, s1, S5.out⟩, rfl⟩
      case round =>
        obtain ⟨⟨q, r, rfl, rfl, q0, q1, r0, r1, qr, qq⟩, rfl⟩ := hrel
        have QR := hid qr
        have QQ := hid qq
        clear qr qq
        have NX := hid (fun t => dig_next (d := d0) b1 b3 b4 c6 b9 QR.out QB.out.1 t)
        by_cases c1 : 4294967296 ≤ q
        · have too : v * 4294967296 + d0 < q * (h * 4294967296 + l) := (dig_gt hY.out).2 (by have := QB.out.2; omega)
          obtain ⟨k1, k2, k3, k4⟩ := NX.out too
          have K2 := hid k2
          have K3 := hid k3
          have K4 := hid k4
          clear k2 k3 k4 too
          by_cases c3 : 4294967296 ≤ r + h
          · go_wp2_with fail
            go_meet
            exact ⟨by rw [K4.out c3], rfl⟩
          · go_wp2_with fail
            go_roundw
            case rel => exact ⟨⟨q - 1, r + h, rfl, rfl, by omega, by omega, by omega, by omega, K3.out, K2.out⟩, trivial⟩
            case measure => simp [intOf]; omega
        · obtain ⟨w1, w2, w3⟩ := dig_wraps (d := d0) b3 b4 q0 (by omega) r0 r1 b9 b10
          by_cases c2 : 4294967296 * r + d0 < q * l
          · have too := (dig_test (d := d0) (l := l) QR.out).1 c2
            obtain ⟨k1, k2, k3, k4⟩ := NX.out too
            have K2 := hid k2
            have K3 := hid k3
            have K4 := hid k4
            clear k2 k3 k4 too
            by_cases c3 : 4294967296 ≤ r + h
            · go_wp2_with fail
              go_meet
              exact ⟨by rw [K4.out c3], rfl⟩
            · go_wp2_with fail
              go_roundw
              case rel => exact ⟨⟨q - 1, r + h, rfl, rfl, by omega, by omega, by omega, by omega, K3.out, K2.out⟩, trivial⟩
              case measure => simp [intOf]; omega
          · have no := fun t => c2 ((dig_test (d := d0) (l := l) QR.out).2 t)
            have QE := hid (dig_done hY.out QQ.out no)
            clear no
            go_wp2_with fail
            go_meet
            exact ⟨by rw [← QE.out], rfl⟩
    case rest =>
      obtain ⟨rfl, rfl⟩ := hcut
      obtain ⟨qc0, qc1⟩ := QB.out
      have UN := hid (dig_un (u := v) (d := d0) hY.out (by omega))
      obtain ⟨-, -, -, -, -, -, -, -, -, -, -, -, -, nq, nr⟩ := NF.out
      rw [TW.out.1] at nq
      rw [TW.out.2] at nr
      have NQ := hid nq
      have NR := hid nr
      clear nq nr s1 s2 s3 s4 RH u1 S5
      go_wp2_with fail
      go_ret2
      refine ⟨ret2 ?_ ?_, Below.refl _ _⟩
      · rw [← NQ.out]
      · rw [← NR.out, UN.out]
end Go.Proofs.YtjhekggeofalfaaDoor
