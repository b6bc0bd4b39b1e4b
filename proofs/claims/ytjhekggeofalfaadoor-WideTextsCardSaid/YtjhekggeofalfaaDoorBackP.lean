/- Plain laws of a wide number's bytes, and of what alive's constants come to. -/
import Derived.Test.YtjhekggeofalfaaDoorParse
import Derived.Test.YtjhekggeofalfaaDoorWords
namespace Go.Proofs.YtjhekggeofalfaaDoor
open Go.RowKit

theorem wlist_eq (z : Int) : wlist z 8 = [wbyte z 0, wbyte z 1, wbyte z 2, wbyte z 3, wbyte z 4, wbyte z 5, wbyte z 6, wbyte z 7, wbyte z 8, wbyte z 9, wbyte z 10, wbyte z 11, wbyte z 12, wbyte z 13, wbyte z 14, wbyte z 15] := rfl
theorem eight_words (h : Int) : (((((((h / 72057594037927936 % 256) * 256 + h / 281474976710656 % 256) * 256 + h / 1099511627776 % 256) * 256 + h / 4294967296 % 256) * 256 + h / 16777216 % 256) * 256 + h / 65536 % 256) * 256 + h / 256 % 256) * 256 + h % 256 = h % 18446744073709551616 := by
  omega
theorem wbyte_top (z : Int) : bval ((wlist z 8).take 8) = z / 18446744073709551616 % 18446744073709551616 := by
  rw [wlist_eq, ← eight_words (z / 18446744073709551616)]
  show (((((((((0 * 256 + wbyte z 0) * 256 + wbyte z 1) * 256 + wbyte z 2) * 256 + wbyte z 3) * 256 + wbyte z 4) * 256 + wbyte z 5) * 256 + wbyte z 6) * 256 + wbyte z 7)) = _
  unfold wbyte
  simp only [Nat.reduceSub, Int.reducePow, Int.zero_mul, Int.zero_add]
  have e1 : z / 18446744073709551616 / 72057594037927936 = z / 1329227995784915872903807060280344576 := by omega
  have e2 : z / 18446744073709551616 / 281474976710656 = z / 5192296858534827628530496329220096 := by omega
  have e3 : z / 18446744073709551616 / 1099511627776 = z / 20282409603651670423947251286016 := by omega
  have e4 : z / 18446744073709551616 / 4294967296 = z / 79228162514264337593543950336 := by omega
  have e5 : z / 18446744073709551616 / 16777216 = z / 309485009821345068724781056 := by omega
  have e6 : z / 18446744073709551616 / 65536 = z / 1208925819614629174706176 := by omega
  have e7 : z / 18446744073709551616 / 256 = z / 4722366482869645213696 := by omega
  rw [e1, e2, e3, e4, e5, e6, e7]
theorem wbyte_low (z : Int) : bval (((wlist z 8).drop 8).take 8) = z % 18446744073709551616 := by
  rw [wlist_eq, ← eight_words z]
  show (((((((((0 * 256 + wbyte z 8) * 256 + wbyte z 9) * 256 + wbyte z 10) * 256 + wbyte z 11) * 256 + wbyte z 12) * 256 + wbyte z 13) * 256 + wbyte z 14) * 256 + wbyte z 15)) = _
  unfold wbyte
  simp only [Nat.reduceSub, Int.reducePow, Int.zero_mul, Int.zero_add, Int.ediv_one]
theorem back_bytes {z : Int} (h : Fits2 z) : backOf (wlist z 8) = z := by
  unfold backOf
  rw [wbyte_top, wbyte_low]
  obtain ⟨h1, h2⟩ := h
  unfold wrap64
  omega
theorem wlist_bytes (z : Int) : Bytes8 (wlist z 8) := by
  intro b hb
  rw [wlist_eq] at hb
  have : ∀ j, 0 ≤ wbyte z j ∧ wbyte z j < 256 := fun j => by unfold wbyte; omega
  simp only [List.mem_cons, List.not_mem_nil, or_false] at hb
  rcases hb with rfl | rfl | rfl | rfl | rfl | rfl | rfl | rfl | rfl | rfl | rfl | rfl | rfl | rfl | rfl | rfl <;> exact this _
/-- A text that is a number's. -/
theorem itoa_of {l : List UInt8} {z : Int} (h : Plain10 l) (hz : (dv l : Int) = z) : Lib.itoa z = l := by
  have := (dec_dv _ l rfl h).1
  rw [itoa_signs, if_neg (by omega), ← this]
  congr 1; omega
end Go.Proofs.YtjhekggeofalfaaDoor
