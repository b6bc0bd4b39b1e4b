/- Contract of wide.Sum. -/
import Derived.Test.YtjhekggeofalfaaDoorWide7
import Derived.Test.YtjhekggeofalfaaDoorLongs0
namespace Go.Proofs.YtjhekggeofalfaaDoor
open Go.RowKit

theorem Blks.set2 {w W : World} {l : List (Nat × Obj)} {g : Nat} {u v : Value} {e : TypeId} (h : Blks w W ((g, Obj.cells #[u, v] e (0, 0)) :: l)) (h1 : w.heap.size ≤ g) (h2 : ∀ p ∈ l, p.1 ≠ g) (x y : Value) :
    Blks w ((W.setCell ⟨g, 0, none⟩ x).setCell ⟨g, 1, none⟩ y) ((g, Obj.cells #[x, y] e (0, 0)) :: l) := by
  refine ⟨below_set2 h.bel h1 x y, fun p hp => ?_⟩
  have h0 := h.at_ mem0
  have e1 : ((W.setCell ⟨g, 0, none⟩ x).setCell ⟨g, 1, none⟩ y).heap[g]? = some (Obj.cells #[x, y] e (0, 0)) := by
    simp [World.setCell, Array.getElem?_modify, h0]
  rcases List.mem_cons.1 hp with rfl | hp
  · exact e1
  · rw [Below.heap_setCell _ _ _ _ (h2 p hp), Below.heap_setCell _ _ _ _ (h2 p hp)]
    exact h.2 p (List.mem_cons_of_mem _ hp)
/-- One step of the sum: two words. -/
theorem wsum_step {hi lo v S : Int} (hl : 0 ≤ lo) (hl2 : lo ≤ 18446744073709551615) (hv : Fits v) (hS : hi * 18446744073709551616 + lo = S) :
    let u := IntKind.u64.wrap v
    let s := lo + u
    0 ≤ u ∧ 0 ≤ s % 18446744073709551616 ∧ s % 18446744073709551616 ≤ 18446744073709551615 ∧ 0 ≤ s / 18446744073709551616 ∧ s / 18446744073709551616 ≤ 1 ∧
      (hi + v / 9223372036854775808 + s / 18446744073709551616) * 18446744073709551616 + s % 18446744073709551616 = S + v ∧ -1 ≤ v / 9223372036854775808 ∧ v / 9223372036854775808 ≤ 0 := by
  obtain ⟨v1, v2⟩ := hv
  simp only [u64_wrap]
  omega
def WSumAt (w : World) (n : Nat) (xs : List Int) (i : Value) (wr : World) : Prop :=
  ∃ (k : Nat) (hi lo : Int), k ≤ n ∧ i = .int .i64 k ∧ Blks w wr [(w.heap.size + 1, Obj.cells #[.int .i64 hi, .int .u64 lo] 24 (0, 0)), (w.heap.size, Obj.cells #[.int .i64 0, .int .u64 0] 24 (0, 0))] ∧
    0 ≤ lo ∧ lo ≤ 18446744073709551615 ∧ -(k : Int) ≤ hi ∧ hi ≤ k ∧ hi * 18446744073709551616 + lo = sumI (xs.take k)

set_option maxRecDepth 20000 in
set_option maxHeartbeats 1000000 in
theorem wideSum_any (v : Value) (xs : List Int) (w : World) (h : IsLongs w v xs) (hf : ∀ x ∈ xs, Fits x) :
    Calls Tryd.prog 23 #[v] w fun e w' => e = .returned (wideV (sumI xs)) ∧ Below w.heap.size w w' := by
  have H := hid h
  have HF := hid hf
  obtain ⟨A, c, rfl, hlc, hm, -⟩ := h
  unfold maxLen at hm
  generalize hn : xs.length = n at *
  have HN := hid hn
  clear hn hf
  have HB0 := hid (Blks.two w (.cells #[.int .i64 0, .int .u64 0] 24) (.cells #[.int .i64 0, .int .u64 0] 24))
  go_enter Tryd.func23, Tryd.ntmps23
  go_wp2_with fail
  go_loopw [10] (fun i wr => WSumAt w n xs i wr) (fun i _ => n - (intOf i).toNat)
  case atStart => exact ⟨0, 0, 0, Nat.zero_le _, rfl, HB0.out, by decide, by decide, by decide, by decide, rfl⟩
  case round =>
    obtain ⟨k, hi, lo, hk, rfl, hB, l0, l1, h0, h1, hs⟩ := hrel
    have B := hid hB
    have HS := hid hs
    clear hs hB HB0
    by_cases hlt : k < n
    · have hkx : k < xs.length := by have := HN.out; omega
      obtain ⟨b, o, hA, d0⟩ := H.out.at_ hkx
      replace d0 := (B.out.bel.cell (cell_in d0)).trans d0
      have FV := hid (HF.out _ (by rw [getD_in _ hkx]; exact List.getElem_mem hkx) : Fits (lim xs k))
      have ST := hid (sumI_take xs k hkx)
      have V1 := FV.out.lo
      have V2 := FV.out.hi
      subst hA
      clear hkx
      generalize lim xs k = x at *
      obtain ⟨t0, t1, t2, t3, t4, t5, t6, t7⟩ := wsum_step l0 l1 FV.out HS.out
      have T5 := hid t5
      have AR := add64_run lo (IntKind.u64.wrap x) 0 l0 t0 (by decide) (by decide) wr
      rw [Int.add_zero] at AR
      clear t5
      obtain ⟨c0, c1⟩ := B.out.c2 mem0
      have z0 := B.out.fz mem0 0
      have z1 := B.out.fz mem0 1
      have i0 : (k : Int) < (n : Int) := by omega
      go_wp2
      exact ⟨⟨k + 1, _, _, by omega, by go_num, Blks.set2 B.out (by omega) (by simp) _ _, t1, t2, by omega, by omega, by rw [ST.out]; exact T5.out⟩, by simp [intOf]; omega⟩
    · have hkn : k = n := by omega
      subst hkn
      have ht : xs.take k = xs := by rw [List.take_of_length_le (by have := HN.out; omega)]
      rw [ht] at HS
      obtain ⟨c0, c1⟩ := B.out.c2 mem0
      obtain ⟨r0, r1⟩ := B.out.c2 mem1
      have z0 := B.out.fz mem1 0
      have z1 := B.out.fz mem1 1
      go_wp2
      have E := hid (wideV_of (z := sumI xs) (hi := hi) (lo := lo) (by have := HS.out; omega) (by have := HS.out; omega))
      exact bodyPost_ret (v := .agg #[.int .i64 hi, .int .u64 lo]) (by simp [results, Tryd.results23, go_sem, r0, r1]) rfl ⟨congrArg Ending.returned E.out, below_set2 B.out.bel (by omega) _ _⟩
end Go.Proofs.YtjhekggeofalfaaDoor
