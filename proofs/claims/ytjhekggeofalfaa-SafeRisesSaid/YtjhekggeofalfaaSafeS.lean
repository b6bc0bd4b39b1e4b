/- Contracts of math/bits.Add64, of math/bits.Div64 where the high word is 0, and of safe.Sum. -/
import Derived.Test.YtjhekggeofalfaaSafeR
import Derived.Test.YtjhekggeofalfaaTame
import Derived.Laws.Externs
namespace Go.Proofs.Ytjhekggeofalfaa
open Go.RowKit

theorem add64_run (x y c : Int) (hx : 0 ≤ x) (hy : 0 ≤ y) (hc0 : 0 ≤ c) (hc : c ≤ 1) (w : World) :
    (callFunc 70 #[.int .u64 x, .int .u64 y, .int .u64 c]).run Try.prog w =
      .ok (.value (.tuple #[.int .u64 ((x + y + c) % 18446744073709551616), .int .u64 ((x + y + c) / 18446744073709551616)])) w := by
  rw [run_callFunc_extern Try.func70 (by kernel_rfl) (by kernel_rfl) (by kernel_rfl) (e := add64Entry) (by kernel_rfl), run_add64 x y c hx hy hc0 hc]
  rfl

set_option maxRecDepth 20000 in
set_option maxHeartbeats 1000000 in
theorem div64_zero (lo y : Int) (hl : U64 lo) (hy0 : 1 ≤ y) (hy1 : y ≤ 18446744073709551615) : D64 0 lo y := by
  intro w
  obtain ⟨l0, l1⟩ := hl
  have E := hid (show (0 : Int) * 18446744073709551616 + lo = lo by omega)
  rw [E.out]
  go_enter Try.func76, Try.ntmps76
  go_wp2_with fail
  go_quiet (fail)
  go_wp2_with fail
  go_ret2
  exact ⟨rfl, ⟨rfl, rfl, rfl, Nat.le_refl _, fun _ _ => rfl⟩⟩

/-! ### Slices of int64 values -/
def IsLongs (w : World) (v : Value) (xs : List Int) : Prop :=
  ∃ A c, v = .slice A xs.length c ∧ xs.length ≤ c ∧ c ≤ maxLen ∧
    (xs = [] ∨ ∃ b o, A = some ⟨b, o, none⟩ ∧ b < w.heap.size ∧ ∀ i, i < xs.length → w.cell? ⟨b, o + i, none⟩ = some (.int .i64 (lim xs i)))
theorem IsLongs.below {w w' : World} {v : Value} {xs : List Int} (h : IsLongs w v xs) (hb : Below w.heap.size w w') : IsLongs w' v xs := by
  obtain ⟨A, c, hv, hl, hm, hx⟩ := h
  refine ⟨A, c, hv, hl, hm, ?_⟩
  rcases hx with hx | ⟨b, o, hA, hlt, hc⟩
  · exact .inl hx
  · exact .inr ⟨b, o, hA, Nat.lt_of_lt_of_le hlt hb.size, fun i hi => (hb.cell (p := ⟨b, _, none⟩) hlt).trans (hc i hi)⟩
theorem IsLongs.at_ {w : World} {A : Option Addr} {n c : Nat} {xs : List Int} (h : IsLongs w (.slice A n c) xs) {k : Nat} (hk : k < xs.length) :
    ∃ b o, A = some ⟨b, o, none⟩ ∧ w.cell? ⟨b, o + k, none⟩ = some (.int .i64 (lim xs k)) := by
  obtain ⟨A', c', hv, hl, hm, hx⟩ := h
  injection hv with e1 e2 e3
  subst e1
  rcases hx with rfl | ⟨b, o, hA, hlt, hc⟩
  · simp at hk
  · exact ⟨b, o, hA, hc k hk⟩
def sumI (xs : List Int) : Int := xs.foldl (· + ·) 0
theorem foldl_add (xs : List Int) : ∀ z : Int, xs.foldl (· + ·) z = z + sumI xs := by
  unfold sumI
  induction xs with
  | nil => intro z; simp
  | cons x t ih => intro z; rw [List.foldl_cons, List.foldl_cons, ih, ih (0 + x)]; omega
theorem sumI_append (a b : List Int) : sumI (a ++ b) = sumI a + sumI b := by
  conv => lhs; unfold sumI
  rw [List.foldl_append, foldl_add]; rfl
theorem sumI_take (xs : List Int) (k : Nat) (h : k < xs.length) : sumI (xs.take (k + 1)) = sumI (xs.take k) + lim xs k := by
  rw [List.take_succ_eq_append_getElem h, sumI_append, getD_in _ h]
  simp [sumI]

/-- One step of the sum: two words. -/
theorem sum_step {hi lo v S : Int} (hl : 0 ≤ lo) (hl2 : lo ≤ 18446744073709551615) (hv : Fits v) (hS : hi * 18446744073709551616 + lo = S) :
    let u := IntKind.u64.wrap v
    let s := lo + u + 0
    0 ≤ u ∧ 0 ≤ s % 18446744073709551616 ∧ s % 18446744073709551616 ≤ 18446744073709551615 ∧ 0 ≤ s / 18446744073709551616 ∧ s / 18446744073709551616 ≤ 1 ∧
      (hi + (v / 9223372036854775808 + s / 18446744073709551616)) * 18446744073709551616 + s % 18446744073709551616 = S + v ∧ -1 ≤ v / 9223372036854775808 ∧ v / 9223372036854775808 ≤ 0 := by
  obtain ⟨v1, v2⟩ := hv
  simp only [u64_wrap]
  omega
theorem sum_end {hi lo S : Int} (hl : 0 ≤ lo) (hl2 : lo ≤ 18446744073709551615) (hS : hi * 18446744073709551616 + lo = S) :
    (hi = wrap64 lo / 9223372036854775808 ∧ Fits S ∧ wrap64 lo = S) ∨ (hi ≠ wrap64 lo / 9223372036854775808 ∧ ¬ Fits S) := by
  unfold wrap64 Fits
  omega

/-- At the head of Sum's loop. -/
def SumAt (n : Nat) (xs : List Int) (h l i : Value) : Prop :=
  ∃ (k : Nat) (hi lo : Int), k ≤ n ∧ i = .int .i64 k ∧ h = .int .i64 hi ∧ l = .int .u64 lo ∧ 0 ≤ lo ∧ lo ≤ 18446744073709551615 ∧ -(k : Int) ≤ hi ∧ hi ≤ k ∧ hi * 18446744073709551616 + lo = sumI (xs.take k)

set_option maxRecDepth 20000 in
set_option maxHeartbeats 1000000 in
theorem safeSum_any (v : Value) (xs : List Int) (w : World) (h : IsLongs w v xs) (hf : ∀ x ∈ xs, Fits x) :
    Calls Try.prog 47 #[v] w fun e w' => e = .returned (.tuple #[.int .i64 (sat (sumI xs)), .int .i64 (err (sumI xs))]) ∧ w = w' := by
  have H := hid h
  have HF := hid hf
  obtain ⟨A, c, rfl, hlc, hm, -⟩ := h
  unfold maxLen at hm
  generalize hn : xs.length = n at *
  have HN := hid hn
  clear hn hf
  go_enter Try.func47, Try.ntmps47
  go_wp2_with fail
  go_loop [4, 5, 12] (fun h l i => SumAt n xs h l i) (fun _ _ i => n - (intOf i).toNat)
  case atStart => exact ⟨0, 0, 0, Nat.zero_le _, rfl, rfl, rfl, by decide, by decide, by decide, by decide, rfl⟩
  case round =>
    obtain ⟨k, hi, lo, hk, rfl, rfl, rfl, l0, l1, h0, h1, hs⟩ := hrel
    have HS := hid hs
    clear hs
    by_cases hlt : k < n
    · have hkx : k < xs.length := by have := HN.out; omega
      obtain ⟨b, o, hA, d0⟩ := H.out.at_ hkx
      have FV := hid (HF.out _ (by rw [getD_in _ hkx]; exact List.getElem_mem hkx) : Fits (lim xs k))
      have ST := hid (sumI_take xs k hkx)
      have V1 := FV.out.lo
      have V2 := FV.out.hi
      subst hA
      clear hkx
      generalize lim xs k = x at *
      obtain ⟨t0, t1, t2, t3, t4, t5, t6, t7⟩ := sum_step l0 l1 FV.out HS.out
      have T5 := hid t5
      have AR := add64_run lo (IntKind.u64.wrap x) 0 l0 t0 (by decide) (by decide) w
      clear t5
      have T5' := hid (show (hi + (x / 9223372036854775808 + (lo + IntKind.u64.wrap x) / 18446744073709551616)) * 18446744073709551616 + (lo + IntKind.u64.wrap x) % 18446744073709551616 = sumI (xs.take k) + x by have := T5.out; simpa using this)
      rw [Int.add_zero] at t1 t2 t3 t4
      go_wp2
      exact ⟨⟨k + 1, _, _, by omega, by go_num, rfl, rfl, t1, t2, by omega, by omega, by rw [ST.out]; exact T5'.out⟩, by simp [intOf]; omega⟩
    · have hkn : k = n := by omega
      subst hkn
      have ht : xs.take k = xs := by rw [List.take_of_length_le (by have := HN.out; omega)]
      rw [ht] at HS
      rcases sum_end l0 l1 HS.out with ⟨e1, e2, e3⟩ | ⟨e1, e2⟩
      · have q : (hi == wrap64 lo / 9223372036854775808) = true := beq_iff_eq.2 e1
        have E2 := hid e2
        have E3 := hid e3
        clear e1 e2 e3 HS
        go_wp2
        go_ret2
        exact ⟨ret2 ((sat_yes E2.out).trans E3.out.symm).symm (err_yes E2.out).symm, rfl⟩
      · have q : (hi == wrap64 lo / 9223372036854775808) = false := beq_eq_false_iff_ne.2 e1
        have q2 : (hi != wrap64 lo / 9223372036854775808) = true := bne_iff_ne.2 e1
        have E2 := hid e2
        clear e1 e2 HS
        go_wp2
        go_ret2
        exact ⟨ret2 (sat_no E2.out).symm (err_no E2.out).symm, rfl⟩
end Go.Proofs.Ytjhekggeofalfaa
