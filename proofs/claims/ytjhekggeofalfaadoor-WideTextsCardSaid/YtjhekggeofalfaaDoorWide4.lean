/- Contracts of wide.Add, Sub, Cmp: the plain laws. -/
import Derived.Test.YtjhekggeofalfaaDoorWide3
namespace Go.Proofs.YtjhekggeofalfaaDoor
open Go.RowKit

theorem hi_fits {z : Int} (h : Fits2 z) : Fits (z / 18446744073709551616) := by
  obtain ⟨h1, h2⟩ := h; unfold Fits; omega
/-- The sum's words. -/
theorem add_words {a b : Int} (ha : Fits2 a) (hb : Fits2 b) :
    let h := wrap64 (a / 18446744073709551616 + b / 18446744073709551616 + (a % 18446744073709551616 + b % 18446744073709551616) / 18446744073709551616)
    (bits .and .i64 (bits .xor .i64 (a / 18446744073709551616) h) (bits .xor .i64 (b / 18446744073709551616) h) < 0 ↔ ¬ Fits2 (a + b)) ∧
      (Fits2 (a + b) → h = (a + b) / 18446744073709551616) ∧ (a % 18446744073709551616 + b % 18446744073709551616) % 18446744073709551616 = (a + b) % 18446744073709551616 := by
  intro h
  have fh : Fits h := fits_wrap _
  refine ⟨?_, ?_, by omega⟩
  · rw [and_neg (fits_xor _ _) (fits_xor _ _), xor_neg (hi_fits ha) fh, xor_neg (hi_fits hb) fh]
    obtain ⟨a1, a2⟩ := ha
    obtain ⟨b1, b2⟩ := hb
    show _ ↔ ¬ Fits2 (a + b)
    have e : h = wrap64 (a / 18446744073709551616 + b / 18446744073709551616 + (a % 18446744073709551616 + b % 18446744073709551616) / 18446744073709551616) := rfl
    clear_value h
    unfold wrap64 at e
    unfold Fits2
    omega
  · intro f
    obtain ⟨a1, a2⟩ := ha
    obtain ⟨b1, b2⟩ := hb
    obtain ⟨f1, f2⟩ := f
    show wrap64 _ = _
    unfold wrap64
    omega
/-- The difference's words. -/
theorem sub_words {a b : Int} (ha : Fits2 a) (hb : Fits2 b) :
    let h := wrap64 (a / 18446744073709551616 - b / 18446744073709551616 - (if a % 18446744073709551616 < b % 18446744073709551616 then 1 else 0))
    (bits .and .i64 (bits .xor .i64 (a / 18446744073709551616) (b / 18446744073709551616)) (bits .xor .i64 (a / 18446744073709551616) h) < 0 ↔ ¬ Fits2 (a - b)) ∧
      (Fits2 (a - b) → h = (a - b) / 18446744073709551616) ∧ (a % 18446744073709551616 - b % 18446744073709551616) % 18446744073709551616 = (a - b) % 18446744073709551616 := by
  intro h
  have fh : Fits h := fits_wrap _
  refine ⟨?_, ?_, by omega⟩
  · rw [and_neg (fits_xor _ _) (fits_xor _ _), xor_neg (hi_fits ha) (hi_fits hb), xor_neg (hi_fits ha) fh]
    obtain ⟨a1, a2⟩ := ha
    obtain ⟨b1, b2⟩ := hb
    show _ ↔ ¬ Fits2 (a - b)
    have e : h = wrap64 (a / 18446744073709551616 - b / 18446744073709551616 - (if a % 18446744073709551616 < b % 18446744073709551616 then 1 else 0)) := rfl
    clear_value h
    unfold wrap64 at e
    unfold Fits2
    split at e <;> omega
  · intro f
    obtain ⟨a1, a2⟩ := ha
    obtain ⟨b1, b2⟩ := hb
    obtain ⟨f1, f2⟩ := f
    show wrap64 _ = _
    unfold wrap64
    split <;> omega
end Go.Proofs.YtjhekggeofalfaaDoor
