/- Contract of wide.Cmp. -/
import Derived.Test.YtjhekggeofalfaaDoorWide6
namespace Go.Proofs.YtjhekggeofalfaaDoor
open Go.RowKit

theorem words_eq {a b : Int} (h1 : a / 18446744073709551616 = b / 18446744073709551616) (h2 : a % 18446744073709551616 = b % 18446744073709551616) : a = b := by omega
set_option maxRecDepth 20000 in
theorem wideCmp_any (a b : Int) (w : World) (ha : Fits2 a) (hb : Fits2 b) :
    Calls Tryd.prog 17 #[wideV a, wideV b] w fun e w' => e = .returned (.int .i64 (cmpOf a b)) ∧ Below w.heap.size w w' := by
  have k : cmpOf a b = if b / 18446744073709551616 < a / 18446744073709551616 then 1 else if a / 18446744073709551616 = b / 18446744073709551616 ∧ b % 18446744073709551616 < a % 18446744073709551616 then 1
      else if a / 18446744073709551616 = b / 18446744073709551616 ∧ a % 18446744073709551616 = b % 18446744073709551616 then 0 else -1 := by
    unfold cmpOf
    split <;> split <;> (try split) <;> (try split) <;> (try split) <;> omega
  have K := hid k
  clear k
  have L1 : 0 ≤ a % 18446744073709551616 ∧ a % 18446744073709551616 < 18446744073709551616 := by omega
  have L2 : 0 ≤ b % 18446744073709551616 ∧ b % 18446744073709551616 < 18446744073709551616 := by omega
  have A1 := hi_fits ha
  have B1 := hi_fits hb
  unfold wideV
  clear ha hb
  generalize cmpOf a b = r at *
  generalize a / 18446744073709551616 = ah at *
  generalize b / 18446744073709551616 = bh at *
  generalize a % 18446744073709551616 = al at *
  generalize b % 18446744073709551616 = bl at *
  by_cases c1 : bh < ah
  · have K1 := hid (show r = 1 by rw [K.out, if_pos c1])
    clear K
    go_enter Tryd.func17, Tryd.ntmps17
    go_wp2
    go_ret
    exact ⟨ret1 K1.out.symm, ((Below.refl _ _).alloc (Nat.le_refl _) _).alloc (by simp) _⟩
  by_cases c2 : ah = bh
  · subst c2
    have q : (ah == ah) = true := beq_self_eq_true _
    by_cases c3 : bl < al
    · have K1 := hid (show r = 1 by rw [K.out, if_neg c1, if_pos ⟨rfl, c3⟩])
      clear K
      go_enter Tryd.func17, Tryd.ntmps17
      go_wp2
      go_ret
      exact ⟨ret1 K1.out.symm, ((Below.refl _ _).alloc (Nat.le_refl _) _).alloc (by simp) _⟩
    by_cases c4 : al = bl
    · have K1 := hid (show r = 0 by rw [K.out, if_neg c1, if_neg (fun t => c3 t.2), if_pos ⟨rfl, c4⟩])
      subst c4
      clear K
      go_enter Tryd.func17, Tryd.ntmps17
      go_wp2
      go_ret
      exact ⟨ret1 K1.out.symm, ((Below.refl _ _).alloc (Nat.le_refl _) _).alloc (by simp) _⟩
    · have K1 := hid (show r = -1 by rw [K.out, if_neg c1, if_neg (fun t => c3 t.2), if_neg (fun t => c4 t.2)])
      have q2 : (al == bl) = false := beq_eq_false_iff_ne.2 c4
      clear K
      go_enter Tryd.func17, Tryd.ntmps17
      go_wp2
      go_ret
      exact ⟨ret1 K1.out.symm, ((Below.refl _ _).alloc (Nat.le_refl _) _).alloc (by simp) _⟩
  · have K1 := hid (show r = -1 by rw [K.out, if_neg c1, if_neg (fun t => c2 t.1), if_neg (fun t => c2 t.1)])
    have q : (ah == bh) = false := beq_eq_false_iff_ne.2 c2
    clear K
    go_enter Tryd.func17, Tryd.ntmps17
    go_wp2
    go_ret
    exact ⟨ret1 K1.out.symm, ((Below.refl _ _).alloc (Nat.le_refl _) _).alloc (by simp) _⟩
end Go.Proofs.YtjhekggeofalfaaDoor
