/- Contracts of noonmarkref01.plus, minus and above: sums, differences and comparisons of rows of limbs. -/
import Derived.Test.YtjhekggeofalfaaDoorRow
namespace Go.Proofs.YtjhekggeofalfaaDoor
open Go.RowKit

theorem infoInt : (Tryd.prog.info? 3).map (fun i => (i.zero, i.size, i.bytes)) = some (some (.int .i64 0), 1, 8) := by kernel_rfl

theorem plus_step {a b ds : List Int} {k : Nat} {c : Int} (la : Limbs a) (lb : Limbs b) (ld : Limbs ds) (hlen : ds.length = k) (h0 : 0 ≤ c) (h1 : c ≤ 1)
    (hv : val ds + pw k * c = val (a.take k) + val (b.take k)) :
    let s := c + (lim a k + lim b k)
    0 ≤ s ∧ s ≤ 131071 ∧ Limbs (ds ++ [s % 65536]) ∧ 0 ≤ s / 65536 ∧ s / 65536 ≤ 1 ∧
      val (ds ++ [s % 65536]) + pw (k + 1) * (s / 65536) = val (a.take (k + 1)) + val (b.take (k + 1)) := by
  intro s
  have ha := la.getD k; have hb := lb.getD k
  refine ⟨by omega, by omega, ld.append (Limbs.one (by omega) (by omega)), by omega, by omega, ?_⟩
  rw [val_snoc, val_take_succ, val_take_succ, hlen, pw_succ]
  have e : pw k * (s % 65536) + 65536 * pw k * (s / 65536) = pw k * s := by
    rw [Int.mul_comm 65536 (pw k), Int.mul_assoc, ← Int.mul_add]
    congr 1; omega
  have e2 : pw k * s = pw k * c + pw k * lim a k + pw k * lim b k := by
    show pw k * (c + (lim a k + lim b k)) = _
    rw [Int.mul_add, Int.mul_add]; omega
  omega
theorem plus_done {a b ds : List Int} {k : Nat} {c : Int} (la : Limbs a) (lb : Limbs b) (ld : Limbs ds) (ha : a.length < k) (hb : b.length < k) (hlen : ds.length = k) (h0 : 0 ≤ c)
    (hv : val ds + pw k * c = val (a.take k) + val (b.take k)) : val ds = val a + val b := by
  rw [take_all a (by omega), take_all b (by omega)] at hv
  have h1 := val_lt la; have h2 := val_lt lb
  obtain ⟨m, rfl⟩ : ∃ m, k = m + 1 := ⟨k - 1, by omega⟩
  have p1 := pw_le (show a.length ≤ m by omega); have p2 := pw_le (show b.length ≤ m by omega)
  have hn := val_nonneg ld
  have e := pw_succ m
  have hp := pw_pos m
  have : c = 0 := by
    rcases Int.lt_or_le 0 c with h | h
    · have : pw (m + 1) * 1 ≤ pw (m + 1) * c := Int.mul_le_mul_of_nonneg_left (by omega) (by omega)
      omega
    · omega
  subst this
  omega

set_option maxRecDepth 20000 in
set_option maxHeartbeats 1000000 in
theorem plus_any (v u : Value) (a b : List Int) (w : World) (hv : IsRow w v a) (hu : IsRow w u b) (la : Limbs a) (lb : Limbs b) (na : a.length ≤ 10000) (nb : b.length ≤ 10000) :
    Calls Tryd.prog 39 #[v, u] w (RowPost w (val a + val b)) := by
  obtain ⟨i0, hi0, hz0, hz1, hz2⟩ := info_parts infoInt
  have HV := hid hv
  have HU := hid hu
  obtain ⟨A, ca, rfl, -, -, -⟩ := hv
  obtain ⟨B, cb, rfl, -, -, -⟩ := hu
  have LA := hid la
  have LB := hid lb
  clear la lb
  generalize hna : a.length = n at *
  generalize hnb : b.length = m at *
  have HA := hid hna
  have HB := hid hnb
  clear hna hnb
  go_enter Tryd.func39, Tryd.ntmps39
  go_wp2
  go_loopw [5, 6, 7] (fun o c i wr => ∃ (k : Nat) (cc : Int) (ds : List Int), k ≤ (max n m) + 1 ∧ i = .int .i64 k ∧ c = .int .i64 cc ∧ 0 ≤ cc ∧ cc ≤ 1 ∧
      wr.ownsRow w.heap.size 3 1 o ds.length (ds.map (Value.int .i64)) ∧ Limbs ds ∧ ds.length = k ∧ val ds + pw k * cc = val (a.take k) + val (b.take k) ∧ Below w.heap.size w wr)
    (fun _ _ i _ => (max n m) + 1 - (intOf i).toNat)
  case atStart => exact ⟨0, 0, [], by omega, rfl, rfl, by omega, by omega, World.ownsRow_made w #[] 0 (Nat.le_refl _) (by simp [maxLen]) rfl, Limbs.nil, rfl, by simp [val], (Below.refl _ _).alloc (Nat.le_refl _) _⟩
  case round =>
    obtain ⟨k, cc, ds, hk, rfl, rfl, h0, h1, hown, hld, hlen, hval, hbel⟩ := hrel
    have HW := hid hval
    have HL := hid hlen
    clear hval hlen
    have hrow : IsRow wr (.slice A n ca) a := HV.out.below hbel
    have hrow' : IsRow wr (.slice B m cb) b := HU.out.below hbel
    have HR := hid hrow
    have HR' := hid hrow'
    clear hrow hrow'
    have hln : ds.length = k := HL.out
    by_cases hlt : k ≤ max n m
    · have st := plus_step LA.out LB.out hld HL.out h0 h1 HW.out
      have b1 := LA.out.getD k
      have b2 := LB.out.getD k
      have ea := hid (rfl : lim a k = lim a k)
      generalize hx : lim a k = x at *
      generalize hy : lim b k = y at *
      have HX := hid hx
      have HY := hid hy
      clear ea hx hy
      obtain ⟨s0, s1, s2, s3, s4, s5⟩ := st
      have S2 := hid s2
      have S5 := hid s5
      clear s2 s5 hln
      have hx : (k:Int) ≤ if n < m then (m:Int) else n := by split <;> omega
      go_wp2_with fail
      all_goals
        refine (limb_any _ a _ _ HR.out (by omega) (by have := HA.out; omega)).mono ?_
        rintro e w' ⟨rfl, rfl⟩
        rw [Int.toNat_natCast, HX.out]
        go_wp2_with fail
        refine (limb_any _ b _ _ HR'.out (by omega) (by have := HB.out; omega)).mono ?_
        rintro e w' ⟨rfl, rfl⟩
        rw [Int.toNat_natCast, HY.out]
        go_wp2_with (at_builtin; go_must (refine append1 rfl _ _ 32 rfl w.heap.size 3 i0 (.int .i64 0) 8 Tryd.underlying32 hi0 hz0 hz1 hz2 rfl _ _ _ wr _ _ hown rfl _ rfl rfl (by have := HL.out; omega) (by decide) hbel.size ?_); intro v' w1 hown1 hb1)
        go_roundw
        case rel =>
          refine ⟨k + 1, (cc + (x + y)) / 65536, ds ++ [(cc + (x + y)) % 65536], by omega, by go_num, rfl, s3, s4, ?_, S2.out, by rw [List.length_append, HL.out]; rfl, S5.out, hbel.trans hb1⟩
          rw [List.length_append, List.map_append]; exact hown1
        case measure => simp [intOf]; omega
    · have hx : ¬ (k:Int) ≤ if n < m then (m:Int) else n := by split <;> omega
      have hrow := hid (IsRow.of_own hown)
      have HD := hid (plus_done LA.out LB.out hld (by have := HA.out; omega) (by have := HB.out; omega) HL.out h0 HW.out)
      go_wp2_with fail
      all_goals
        refine (trim_any _ ds _ hrow.out hld).mono ?_
        rintro e w' ⟨v', j, rfl, h1', h2', h3', rfl⟩
        go_wp2_with fail
        go_ret
        exact ⟨_, _, rfl, h1' _ hrow.out, h2', h3'.trans HD.out, hbel⟩
#print axioms plus_any
end Go.Proofs.YtjhekggeofalfaaDoor
