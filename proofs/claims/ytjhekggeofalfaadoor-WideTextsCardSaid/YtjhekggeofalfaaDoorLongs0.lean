/- Slices of int64 values; sums. -/
import Derived.Test.YtjhekggeofalfaaDoorRow
import Derived.Test.YtjhekggeofalfaaDoorNum
namespace Go.Proofs.YtjhekggeofalfaaDoor
open Go.RowKit

theorem add_none' (b o n : Nat) : Addr.add ⟨b, o, none⟩ n = ⟨b, o + n, none⟩ := by
  unfold Addr.add; split <;> simp_all
/-! ### Slices of int64 values -/
def IsLongs (w : World) (v : Value) (xs : List Int) : Prop :=
  ∃ A c, v = .slice A xs.length c ∧ xs.length ≤ c ∧ c ≤ maxLen ∧
    (xs = [] ∨ ∃ b o, A = some ⟨b, o, none⟩ ∧ b < w.heap.size ∧ ∀ i, i < xs.length → w.cell? ⟨b, o + i, none⟩ = some (.int .i64 (lim xs i)))
theorem IsLongs.below {w w' : World} {v : Value} {xs : List Int} (h : IsLongs w v xs) (hb : Below w.heap.size w w') : IsLongs w' v xs := by
  obtain ⟨A, c, hv, hl, hm, hx⟩ := h
  refine ⟨A, c, hv, hl, hm, ?_⟩
  rcases hx with hx | ⟨b, o, hA, hlt, hc⟩
  · exact .inl hx
  · exact .inr ⟨b, o, hA, Nat.lt_of_lt_of_le hlt hb.size, fun i hi => (hb.cell (p := ⟨b, _, none⟩) hlt).trans (hc i hi)⟩
theorem IsLongs.at_ {w : World} {A : Option Addr} {n c : Nat} {xs : List Int} (h : IsLongs w (.slice A n c) xs) {k : Nat} (hk : k < xs.length) :
    ∃ b o, A = some ⟨b, o, none⟩ ∧ w.cell? ⟨b, o + k, none⟩ = some (.int .i64 (lim xs k)) := by
  obtain ⟨A', c', hv, hl, hm, hx⟩ := h
  injection hv with e1 e2 e3
  subst e1
  rcases hx with rfl | ⟨b, o, hA, hlt, hc⟩
  · simp at hk
  · exact ⟨b, o, hA, hc k hk⟩
def sumI (xs : List Int) : Int := xs.foldl (· + ·) 0
theorem foldl_add (xs : List Int) : ∀ z : Int, xs.foldl (· + ·) z = z + sumI xs := by
  unfold sumI
  induction xs with
  | nil => intro z; simp
  | cons x t ih => intro z; rw [List.foldl_cons, List.foldl_cons, ih, ih (0 + x)]; omega
theorem sumI_append (a b : List Int) : sumI (a ++ b) = sumI a + sumI b := by
  conv => lhs; unfold sumI
  rw [List.foldl_append, foldl_add]; rfl
theorem sumI_take (xs : List Int) (k : Nat) (h : k < xs.length) : sumI (xs.take (k + 1)) = sumI (xs.take k) + lim xs k := by
  rw [List.take_succ_eq_append_getElem h, sumI_append, getD_in _ h]
  simp [sumI]

end Go.Proofs.YtjhekggeofalfaaDoor
