/- Contracts of noonmarkref01: Long, told, Plus, Minus, Cmp. -/
import Derived.Test.YtjhekggeofalfaaDoorNum2
namespace Go.Proofs.YtjhekggeofalfaaDoor
open Go.RowKit

/-- What Long answers for a number: itself, where it fits. -/
def longV (z : Int) : Int := if Fits z then z else if 0 ≤ z ∧ z < 18446744073709551616 then z - 18446744073709551616 else 0
theorem longV_yes {z : Int} (h : Fits z) : longV z = z := if_pos h

theorem drop_lt {ds : List Int} (hl : Limbs ds) (h : ds.length ≤ 4) (k : Nat) : 0 ≤ val (ds.drop k) ∧ val (ds.drop k) ≤ 18446744073709551615 := by
  have h1 := val_lt (hl.drop k)
  have h2 := val_nonneg (hl.drop k)
  have h3 := pw_le (show (ds.drop k).length ≤ 4 by simp; omega)
  rw [pw4] at h3
  omega

set_option maxRecDepth 20000 in
set_option maxHeartbeats 1000000 in
theorem long_any (v : Value) (z : Int) (w : World) (h : NumIs w v z) (sz : Small z) :
    Calls Tryd.prog 12 #[v] w fun e w' => e = .returned (.tuple #[.int .i64 (longV z), .bool (decide (Fits z))]) ∧ Below w.heap.size w w' := by
  obtain ⟨s, ds, rfl, hr, hc, hva⟩ := h
  have HC := hid hc
  have HV := hid hva
  have hl40 := small_len sz hc hva
  have HR := hid (hr.alloc (.cells #[.bool (decide (z < 0)), s] 34))
  obtain ⟨A, c, rfl, hlc, hm, -⟩ := hr
  clear hc hva
  have HN := hid (rfl : ds.length = ds.length)
  obtain ⟨p, hp⟩ : ∃ p, p = decide (z < 0) := ⟨_, rfl⟩
  rw [← hp] at HR ⊢
  have HP := hid hp
  clear hp sz hm
  generalize hn : ds.length = n at *
  have HL := hid hn
  clear hn HN
  by_cases h4 : 4 < n
  · have nf : ¬ Fits z := by
      rintro ⟨f1, f2⟩
      have := HC.out.pos (by intro e; have := HL.out; rw [e] at this; simp at this; omega)
      have h3 := pw_le (show 4 ≤ ds.length - 1 by have := HL.out; omega)
      have := HV.out
      rw [pw4] at h3
      omega
    have nz : longV z = 0 := by
      unfold longV
      rw [if_neg nf, if_neg]
      rintro ⟨f1, f2⟩
      have := HC.out.pos (by intro e; have := HL.out; rw [e] at this; simp at this; omega)
      have h3 := pw_le (show 4 ≤ ds.length - 1 by have := HL.out; omega)
      have := HV.out
      rw [pw4] at h3
      omega
    rw [nz, decide_eq_false nf]
    clear nf nz
    go_enter Tryd.func12, Tryd.ntmps12
    go_wp2
    go_ret2
    exact ⟨rfl, (Below.refl _ _).alloc (Nat.le_refl _) _⟩
  · go_enter Tryd.func12, Tryd.ntmps12
    go_wp2
    go_loop [4, 5] (fun x i => ∃ (k : Nat) (y : Int), k ≤ n ∧ x = .int .u64 y ∧ 0 ≤ y ∧ y ≤ 18446744073709551615 ∧ i = .int .i64 ((k : Int) - 1) ∧ y = val (ds.drop k)) (fun _ i => (intOf i + 1).toNat)
    case atStart => exact ⟨n, 0, Nat.le_refl _, rfl, by omega, by omega, rfl, by rw [List.drop_of_length_le (by have := HL.out; omega)]; rfl⟩
    case round =>
      obtain ⟨k, y, hk, rfl, hy0, hy1, rfl, hy⟩ := hrel
      have HY := hid hy
      clear hy
      by_cases h0 : k = 0
      · subst h0
        rw [show ((0 : Nat) : Int) - 1 = -1 from rfl]
        have HE := hid (show y = z.natAbs by rw [HY.out, ← HV.out]; rfl)
        by_cases hneg : z < 0
        · have hpt : p = true := by rw [HP.out]; simpa using hneg
          subst hpt
          by_cases hb : 9223372036854775808 < y
          · have nf : ¬ Fits z := by have := HE.out; rintro ⟨f1, f2⟩; omega
            have nz : longV z = 0 := by unfold longV; rw [if_neg nf, if_neg (by omega)]
            have NF := hid nf
            have NZ := hid nz
            clear nf nz hneg
            go_wp2
            go_ret2
            exact ⟨retib NZ.out.symm (decide_eq_false NF.out).symm, (Below.refl _ _).alloc (Nat.le_refl _) _⟩
          · have f : Fits z := by have := HE.out; exact ⟨by omega, by omega⟩
            have F := hid f
            have hy1' : 1 ≤ y := by have := HE.out; omega
            clear f
            have HNEG := hid hneg
            clear hneg
            go_wp2
            go_ret2
            refine ⟨retib ?_ (decide_eq_true F.out).symm, (Below.refl _ _).alloc (Nat.le_refl _) _⟩
            rw [longV_yes F.out]
            have := HE.out
            have := HNEG.out
            first | omega | (simp only [wrap64]; omega)
        · have hpt : p = false := by rw [HP.out]; simpa using hneg
          subst hpt
          have HNEG := hid hneg
          clear hneg
          go_wp2
          go_ret2
          have h1 := HE.out
          have h2 := HNEG.out
          by_cases f : Fits z
          · have f1 := f.hi
            refine ⟨retib ?_ ?_, (Below.refl _ _).alloc (Nat.le_refl _) _⟩
            · rw [longV_yes f]; unfold wrap64; omega
            · rw [decide_eq_true f]; exact decide_eq_true (by omega)
          · have f1 : 9223372036854775808 ≤ z := by
              have : ¬ (-9223372036854775808 ≤ z ∧ z ≤ 9223372036854775807) := f
              omega
            refine ⟨retib ?_ ?_, (Below.refl _ _).alloc (Nat.le_refl _) _⟩
            · unfold longV; rw [if_neg f, if_pos (by omega)]; unfold wrap64; omega
            · rw [decide_eq_false f]; exact decide_eq_false (by omega)
      · obtain ⟨j, rfl⟩ : ∃ j, k = j + 1 := ⟨k - 1, by omega⟩
        have hj : ((j + 1 : Nat) : Int) - 1 = (j : Int) := by omega
        rw [hj]
        clear h0 hj
        obtain ⟨b, o, hA, hb, hcell⟩ : ∃ b o, A = some ⟨b, o, none⟩ ∧ b < (w.alloc (.cells #[.bool p, .slice A n c] 34)).heap.size ∧ ∀ i, i < ds.length → (w.alloc (.cells #[.bool p, .slice A n c] 34)).cell? ⟨b, o + i, none⟩ = some (.int .i64 (lim ds i)) := by
          obtain ⟨A', c', hv, -, -, hx⟩ := HR.out
          injection hv with e1 e2 e3
          subst e1
          exact row_cells hx (by have := HL.out; omega)
        have cell := hcell j (by have := HL.out; omega)
        have lb := HC.out.limbs.getD j
        have st := val_drop ds j
        have d1 := drop_lt HC.out.limbs (by have := HL.out; omega) j
        subst hA
        generalize hd : lim ds j = d at *
        rw [← HY.out] at st
        rw [st] at d1
        have ST := hid st
        clear st hcell hd hb
        go_wp2
        go_round
        case rel => exact ⟨j, y * 65536 + d, by omega, rfl, by omega, by omega, by go_num, by rw [ST.out]; omega⟩
        case measure => simp [intOf]
end Go.Proofs.YtjhekggeofalfaaDoor
