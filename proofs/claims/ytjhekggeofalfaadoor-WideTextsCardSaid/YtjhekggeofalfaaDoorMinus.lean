/- Contracts of noonmarkref01.minus and above. -/
import Derived.Test.YtjhekggeofalfaaDoorPlus
namespace Go.Proofs.YtjhekggeofalfaaDoor
open Go.RowKit

theorem minus_step {a b ds : List Int} {k : Nat} {c s : Int} (la : Limbs a) (lb : Limbs b) (ld : Limbs ds) (hlen : ds.length = k) (h0 : 0 ≤ c) (h1 : c ≤ 1)
    (hv : val ds = val (a.take k) - val (b.take k) + pw k * c) (hs : s = lim a k - lim b k - c) :
    (-65536 ≤ s ∧ s ≤ 65535) ∧
      (s < 0 → Limbs (ds ++ [s + 65536]) ∧ val (ds ++ [s + 65536]) = val (a.take (k + 1)) - val (b.take (k + 1)) + pw (k + 1) * 1) ∧
      (0 ≤ s → Limbs (ds ++ [s]) ∧ val (ds ++ [s]) = val (a.take (k + 1)) - val (b.take (k + 1)) + pw (k + 1) * 0) := by
  have ha := la.getD k; have hb := lb.getD k
  have e2 : pw k * s = pw k * lim a k - pw k * lim b k - pw k * c := by
    rw [hs, Int.mul_sub, Int.mul_sub]
  refine ⟨⟨by omega, by omega⟩, fun hs => ⟨ld.append (Limbs.one (by omega) (by omega)), ?_⟩, fun hs => ⟨ld.append (Limbs.one (by omega) (by omega)), ?_⟩⟩
  · rw [val_snoc, val_take_succ, val_take_succ, hlen, pw_succ, Int.mul_add]
    omega
  · rw [val_snoc, val_take_succ, val_take_succ, hlen]
    omega
theorem minus_done {a b ds : List Int} {k : Nat} {c : Int} (ld : Limbs ds) (ha : a.length = k) (hb : b.length ≤ k) (hlen : ds.length = k) (h0 : 0 ≤ c)
    (hle : val b ≤ val a) (hv : val ds = val (a.take k) - val (b.take k) + pw k * c) : val ds = val a - val b := by
  rw [take_all a (by omega), take_all b (by omega)] at hv
  have h2 := val_lt ld
  rw [hlen] at h2
  have hp := pw_pos k
  have : c = 0 := by
    rcases Int.lt_or_le 0 c with h | h
    · have : pw k * 1 ≤ pw k * c := Int.mul_le_mul_of_nonneg_left (by omega) (by omega)
      omega
    · omega
  subst this
  omega

set_option maxRecDepth 20000 in
set_option maxHeartbeats 1000000 in
theorem minus_any (v u : Value) (a b : List Int) (w : World) (hv : IsRow w v a) (hu : IsRow w u b) (la : Limbs a) (lb : Limbs b) (na : a.length ≤ 10000) (nb : b.length ≤ a.length) (hle : val b ≤ val a) :
    Calls Tryd.prog 41 #[v, u] w (RowPost w (val a - val b)) := by
  obtain ⟨i0, hi0, hz0, hz1, hz2⟩ := info_parts infoInt
  have HV := hid hv
  have HU := hid hu
  obtain ⟨A, ca, rfl, -, -, -⟩ := hv
  obtain ⟨B, cb, rfl, -, -, -⟩ := hu
  have LA := hid la
  have LB := hid lb
  have HLE := hid hle
  clear la lb hle
  generalize hna : a.length = n at *
  generalize hnb : b.length = m at *
  have HA := hid hna
  have HB := hid hnb
  clear hna hnb
  go_enter Tryd.func41, Tryd.ntmps41
  go_wp2
  go_loopw [5, 6, 7] (fun o c i wr => ∃ (k : Nat) (cc : Int) (ds : List Int), k ≤ n ∧ i = .int .i64 k ∧ c = .int .i64 cc ∧ 0 ≤ cc ∧ cc ≤ 1 ∧
      wr.ownsRow w.heap.size 3 1 o ds.length (ds.map (Value.int .i64)) ∧ Limbs ds ∧ ds.length = k ∧ val ds = val (a.take k) - val (b.take k) + pw k * cc ∧ Below w.heap.size w wr)
    (fun _ _ i _ => n - (intOf i).toNat)
  case atStart => exact ⟨0, 0, [], by omega, rfl, rfl, by omega, by omega, World.ownsRow_made w #[] 0 (Nat.le_refl _) (by simp [maxLen]) rfl, Limbs.nil, rfl, by simp [val], (Below.refl _ _).alloc (Nat.le_refl _) _⟩
  case round =>
    obtain ⟨k, cc, ds, hk, rfl, rfl, h0, h1, hown, hld, hlen, hval, hbel⟩ := hrel
    have HW := hid hval
    have HL := hid hlen
    clear hval hlen
    have HR := hid (show IsRow wr (.slice A n ca) a from HV.out.below hbel)
    have HR' := hid (show IsRow wr (.slice B m cb) b from HU.out.below hbel)
    by_cases hlt : k < n
    · have st := minus_step LA.out LB.out hld HL.out h0 h1 HW.out rfl
      have b1 := LA.out.getD k
      have b2 := LB.out.getD k
      generalize hx : lim a k = x at *
      generalize hy : lim b k = y at *
      have HX := hid hx
      have HY := hid hy
      clear hx hy
      obtain ⟨⟨s0, s1⟩, s2, s3⟩ := st
      have S2 := hid s2
      have S3 := hid s3
      clear s2 s3
      go_wp2_with fail
      refine (limb_any _ a _ _ HR.out (by omega) (by have := HA.out; omega)).mono ?_
      rintro e w' ⟨rfl, rfl⟩
      rw [Int.toNat_natCast, HX.out]
      go_wp2_with fail
      refine (limb_any _ b _ _ HR'.out (by omega) (by have := HB.out; omega)).mono ?_
      rintro e w' ⟨rfl, rfl⟩
      rw [Int.toNat_natCast, HY.out]
      by_cases hs : x - y - cc < 0
      · obtain ⟨t1, t2⟩ := S2.out hs
        have T1 := hid t1
        have T2 := hid t2
        clear t1 t2
        go_wp2_with (at_builtin; refine append1 rfl _ _ 32 rfl w.heap.size 3 i0 (.int .i64 0) 8 Tryd.underlying32 hi0 hz0 hz1 hz2 rfl _ _ _ wr _ _ hown rfl _ rfl rfl (by have := HL.out; omega) (by decide) hbel.size ?_; intro v' w1 hown1 hb1)
        go_roundw
        case rel =>
          refine ⟨k + 1, 1, ds ++ [x - y - cc + 65536], by omega, by go_num, rfl, by omega, by omega, ?_, T1.out, by rw [List.length_append, HL.out]; rfl, T2.out, hbel.trans hb1⟩
          rw [List.length_append, List.map_append]; exact hown1
        case measure => simp [intOf]; omega
      · obtain ⟨t1, t2⟩ := S3.out (by omega)
        have T1 := hid t1
        have T2 := hid t2
        clear t1 t2
        go_wp2_with (at_builtin; refine append1 rfl _ _ 32 rfl w.heap.size 3 i0 (.int .i64 0) 8 Tryd.underlying32 hi0 hz0 hz1 hz2 rfl _ _ _ wr _ _ hown rfl _ rfl rfl (by have := HL.out; omega) (by decide) hbel.size ?_; intro v' w1 hown1 hb1)
        go_roundw
        case rel =>
          refine ⟨k + 1, 0, ds ++ [x - y - cc], by omega, by go_num, rfl, by omega, by omega, ?_, T1.out, by rw [List.length_append, HL.out]; rfl, T2.out, hbel.trans hb1⟩
          rw [List.length_append, List.map_append]; exact hown1
        case measure => simp [intOf]; omega
    · have hkn : k = n := by omega
      have hrow := hid (IsRow.of_own hown)
      have HD := hid (minus_done hld (by have := HA.out; omega) (by have := HB.out; omega) HL.out h0 HLE.out HW.out)
      subst hkn
      go_wp2_with fail
      refine (trim_any _ ds _ hrow.out hld).mono ?_
      rintro e w' ⟨v', j, rfl, h1', h2', h3', rfl⟩
      go_wp2_with fail
      go_ret
      exact ⟨_, _, rfl, h1' _ hrow.out, h2', h3'.trans HD.out, hbel⟩

/-- 1, -1 or 0: which of two is the greater. -/
def cmpOf (x y : Int) : Int := if y < x then 1 else if x < y then -1 else 0
theorem cmpOf_gt {x y : Int} (h : y < x) : cmpOf x y = 1 := if_pos h
theorem cmpOf_lt {x y : Int} (h : x < y) : cmpOf x y = -1 := by unfold cmpOf; rw [if_neg (by omega), if_pos h]
theorem cmpOf_eq {x y : Int} (h : x = y) : cmpOf x y = 0 := by unfold cmpOf; rw [if_neg (by omega), if_neg (by omega)]

/-- Where the limbs above place k are worth the same, the limb at k decides. -/
theorem above_gt {a b : List Int} {k : Nat} (la : Limbs a) (lb : Limbs b) (he : val (a.drop (k + 1)) = val (b.drop (k + 1))) (h : lim b k < lim a k) : val b < val a := by
  have sp : ∀ {xs : List Int}, Limbs xs → val xs = val (xs.take k) + pw k * (lim xs k + 65536 * val (xs.drop (k + 1))) := fun {xs} _ => by
    rcases Nat.lt_or_ge xs.length k with hlt | hge
    · rw [take_all xs (by omega), getD_out xs (by omega), List.drop_of_length_le (by omega), val_nil]; simp
    · rw [← val_drop]; exact val_split xs k hge
  rw [sp la, sp lb, he]
  have h1 := val_take_lt lb k
  have h2 := val_take_nonneg la k
  have hp := pw_pos k
  generalize val (b.drop (k + 1)) = t
  have : pw k * (lim b k + 1 + 65536 * t) ≤ pw k * (lim a k + 65536 * t) := Int.mul_le_mul_of_nonneg_left (by omega) (by omega)
  rw [show lim b k + 1 + 65536 * t = (lim b k + 65536 * t) + 1 by omega, Int.mul_add] at this
  omega

set_option maxRecDepth 20000 in
set_option maxHeartbeats 1000000 in
theorem above_any (v u : Value) (a b : List Int) (w : World) (hv : IsRow w v a) (hu : IsRow w u b) (la : Limbs a) (lb : Limbs b) (na : a.length ≤ 10000) (nb : b.length ≤ 10000) :
    Calls Tryd.prog 40 #[v, u] w fun e w' => e = .returned (.int .i64 (cmpOf (val a) (val b))) ∧ w = w' := by
  have HV := hid hv
  have HU := hid hu
  obtain ⟨A, ca, rfl, -, -, -⟩ := hv
  obtain ⟨B, cb, rfl, -, -, -⟩ := hu
  have LA := hid la
  have LB := hid lb
  clear la lb
  generalize hna : a.length = n at *
  generalize hnb : b.length = m at *
  have HA := hid hna
  have HB := hid hnb
  clear hna hnb
  by_cases hnm : n < m
  all_goals
    have hmax : ∃ M : Nat, M = (if n < m then m else n) ∧ n ≤ M ∧ m ≤ M ∧ M ≤ 10000 := ⟨_, rfl, by split <;> omega, by split <;> omega, by split <;> omega⟩
    obtain ⟨M, hM, hM1, hM2, hM3⟩ := hmax
    first | rw [if_pos hnm] at hM | rw [if_neg hnm] at hM
    subst hM
    go_enter Tryd.func40, Tryd.ntmps40
    go_wp2_with fail
    go_loop [5] (fun i => ∃ k : Nat, k ≤ M ∧ i = .int .i64 ((k : Int) - 1) ∧ val (a.drop k) = val (b.drop k)) (fun i => (intOf i + 1).toNat)
    case atStart => exact ⟨M, Nat.le_refl _, rfl, by rw [List.drop_of_length_le (by have := HA.out; omega), List.drop_of_length_le (by have := HB.out; omega)]⟩
    case round =>
      obtain ⟨k, hk, rfl, hval⟩ := hrel
      have HW := hid hval
      clear hval
      by_cases h0 : k = 0
      · subst h0
        have HE := hid (show val a = val b from HW.out)
        rw [show ((0 : Nat) : Int) - 1 = -1 from rfl]
        go_wp2_with fail
        go_ret
        exact ⟨ret1 (cmpOf_eq HE.out).symm, rfl⟩
      · obtain ⟨j, rfl⟩ : ∃ j, k = j + 1 := ⟨k - 1, by omega⟩
        have hj : ((j + 1 : Nat) : Int) - 1 = (j : Int) := by omega
        rw [hj]
        clear h0 hj
        have HX := hid (above_gt LA.out LB.out HW.out)
        have HY := hid (above_gt LB.out LA.out HW.out.symm)
        have HE := hid (fun h : lim a j = lim b j => show val (a.drop j) = val (b.drop j) by rw [val_drop a, val_drop b, h, HW.out])
        go_wp2_with fail
        refine (limb_any _ a _ _ HV.out (by omega) (by have := HA.out; omega)).mono ?_
        rintro e w' ⟨rfl, rfl⟩
        rw [Int.toNat_natCast]
        go_wp2_with fail
        refine (limb_any _ b _ _ HU.out (by omega) (by have := HB.out; omega)).mono ?_
        rintro e w' ⟨rfl, rfl⟩
        rw [Int.toNat_natCast]
        generalize hx : lim a j = x at *
        generalize hy : lim b j = y at *
        have HHX := hid hx
        have HHY := hid hy
        clear hx hy
        by_cases hgt : y < x
        · have HC := hid (HX.out hgt)
          go_wp2_with fail
          go_ret
          exact ⟨ret1 (cmpOf_gt HC.out).symm, rfl⟩
        · go_wp2_with fail
          refine (limb_any _ a _ _ HV.out (by omega) (by have := HA.out; omega)).mono ?_
          rintro e w' ⟨rfl, rfl⟩
          rw [Int.toNat_natCast, HHX.out]
          go_wp2_with fail
          refine (limb_any _ b _ _ HU.out (by omega) (by have := HB.out; omega)).mono ?_
          rintro e w' ⟨rfl, rfl⟩
          rw [Int.toNat_natCast, HHY.out]
          by_cases hlt : x < y
          · have HC := hid (HY.out hlt)
            go_wp2_with fail
            go_ret
            exact ⟨ret1 (cmpOf_lt HC.out).symm, rfl⟩
          · have HC := hid (HE.out (by omega))
            go_wp2_with fail
            go_round
            case rel => exact ⟨j, by omega, by go_num, HC.out⟩
            case measure => simp [intOf]
end Go.Proofs.YtjhekggeofalfaaDoor
