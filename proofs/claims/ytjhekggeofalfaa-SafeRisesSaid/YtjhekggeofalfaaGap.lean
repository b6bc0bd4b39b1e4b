/- Contracts of package gap and of noonmarkref03: New, Right, Has, Within, Width, Mid, Shift, Grow. -/
import Derived.Test.YtjhekggeofalfaaSafe
import Derived.Test.YtjhekggeofalfaaDiv2
import Derived.Test.YtjhekggeofalfaaBlks
namespace Go.Proofs.Ytjhekggeofalfaa
open Go.RowKit

/-! ### What they answer -/
def newLo (lo hi : Int) : Int := if lo ≤ hi then lo else 0
def newHi (lo hi : Int) : Int := if lo ≤ hi then hi else 0
def midOf (lo hi : Int) : Int := if lo ≤ hi then (lo + hi) / 2 else 0
def widthOf (lo hi : Int) : Int := if lo ≤ hi then hi - lo else 0
def hasOf (lo hi x : Int) : Bool := decide (lo ≤ x) && decide (x ≤ hi)
def withinOf (lo hi a b : Int) : Bool := decide (lo ≤ hi) && (decide (a ≤ lo) && decide (hi ≤ b))
def shErr (lo hi by_ : Int) : Int := if lo ≤ hi then (if Fits (lo + by_) ∧ Fits (hi + by_) then 0 else 12) else 10
def shLo (lo hi by_ : Int) : Int := if shErr lo hi by_ = 0 then lo + by_ else 0
def shHi (lo hi by_ : Int) : Int := if shErr lo hi by_ = 0 then hi + by_ else 0
def grErr (lo hi a b : Int) : Int := if lo ≤ hi then (if Fits (lo - a) ∧ Fits (hi + b) then (if lo - a ≤ hi + b then 0 else 13) else 12) else 10
def grLo (lo hi a b : Int) : Int := if grErr lo hi a b = 0 then lo - a else 0
def grHi (lo hi a b : Int) : Int := if grErr lo hi a b = 0 then hi + b else 0

/-- A gap as a value. -/
abbrev gapV (lo hi : Int) : Value := .agg #[.int .i64 lo, .int .i64 hi]

theorem retg {a b c d : Int} (x : Bool) (h : a = b) (h' : c = d) : Ending.returned (.tuple #[.agg #[.int .i64 a, .int .i64 c], .bool x]) = .returned (.tuple #[.agg #[.int .i64 b, .int .i64 d], .bool x]) := by rw [h, h']
theorem retge {a b c d e f : Int} (h : a = b) (h' : c = d) (h'' : e = f) : Ending.returned (.tuple #[.agg #[.int .i64 a, .int .i64 c], .int .i64 e]) = .returned (.tuple #[.agg #[.int .i64 b, .int .i64 d], .int .i64 f]) := by rw [h, h', h'']

set_option maxHeartbeats 1000000 in
theorem gapNew_any (lo hi : Int) (w : World) :
    Calls Try.prog 15 #[.int .i64 lo, .int .i64 hi] w fun e w' =>
      e = .returned (.tuple #[gapV (newLo lo hi) (newHi lo hi), .bool (decide (lo ≤ hi))]) ∧ Below w.heap.size w w' := by
  by_cases h : hi < lo
  · rw [newLo, newHi, if_neg (by omega), if_neg (by omega), decide_eq_false (by omega)]
    go_enter Try.func15, Try.ntmps15
    go_wp2
    exact bodyPost_ret (v := .tuple #[gapV 0 0, .bool false]) (by simp [results, Try.results15, go_sem]) rfl ⟨rfl, (Below.refl _ _).alloc (Nat.le_refl _) _⟩
  · rw [newLo, newHi, if_pos (by omega), if_pos (by omega), decide_eq_true (by omega)]
    go_enter Try.func15, Try.ntmps15
    go_wp2
    exact bodyPost_ret (v := .tuple #[gapV lo hi, .bool true]) (by simp [results, Try.results15, go_sem]) rfl ⟨rfl, (Below.refl _ _).alloc (Nat.le_refl _) _⟩

set_option maxHeartbeats 400000 in
theorem gapRight_any (lo hi : Int) (w : World) :
    Calls Try.prog 21 #[gapV lo hi] w fun e w' => e = .returned (.bool (decide (lo ≤ hi))) ∧ Below w.heap.size w w' := by
  go_enter Try.func21, Try.ntmps21
  go_wp2
  go_ret
  exact ⟨rfl, (Below.refl _ _).alloc (Nat.le_refl _) _⟩
set_option maxHeartbeats 400000 in
theorem refRight_any (lo hi : Int) (w : World) :
    Calls Try.prog 44 #[gapV lo hi] w fun e w' => e = .returned (.bool (decide (lo ≤ hi))) ∧ Below w.heap.size w w' := by
  go_enter Try.func44, Try.ntmps44
  go_wp2
  go_ret
  exact ⟨rfl, (Below.refl _ _).alloc (Nat.le_refl _) _⟩
set_option maxHeartbeats 400000 in
theorem gapHas_any (lo hi x : Int) (w : World) :
    Calls Try.prog 24 #[gapV lo hi, .int .i64 x] w fun e w' => e = .returned (.bool (hasOf lo hi x)) ∧ Below w.heap.size w w' := by
  by_cases h1 : lo ≤ x
  · by_cases h2 : x ≤ hi
    · have e := hid (show hasOf lo hi x = true by simp [hasOf, h1, h2])
      go_enter Try.func24, Try.ntmps24
      go_wp2
      go_ret
      exact ⟨retb e.out.symm, (Below.refl _ _).alloc (Nat.le_refl _) _⟩
    · have e := hid (show hasOf lo hi x = false by simp [hasOf, h2])
      go_enter Try.func24, Try.ntmps24
      go_wp2
      go_ret
      exact ⟨retb e.out.symm, (Below.refl _ _).alloc (Nat.le_refl _) _⟩
  · have e := hid (show hasOf lo hi x = false by simp [hasOf, h1])
    go_enter Try.func24, Try.ntmps24
    go_wp2
    go_ret
    exact ⟨retb e.out.symm, (Below.refl _ _).alloc (Nat.le_refl _) _⟩
set_option maxHeartbeats 1000000 in
theorem gapWithin_any (lo hi a b : Int) (w : World) :
    Calls Try.prog 25 #[gapV lo hi, gapV a b] w fun e w' => e = .returned (.bool (withinOf lo hi a b)) ∧ Below w.heap.size w w' := by
  by_cases h0 : lo ≤ hi <;> by_cases h1 : a ≤ lo <;> by_cases h2 : hi ≤ b
  all_goals
    have e := hid (show withinOf lo hi a b = (decide (lo ≤ hi) && (decide (a ≤ lo) && decide (hi ≤ b))) from rfl)
    go_enter Try.func25, Try.ntmps25
    go_wp2
    go_ret
    refine ⟨retb (by rw [e.out]; simp [h0, h1, h2]), ?_⟩
    exact ((((Below.refl _ _).alloc (Nat.le_refl _) _).alloc (by simp) _).alloc (by simp; omega) _)
end Go.Proofs.Ytjhekggeofalfaa
