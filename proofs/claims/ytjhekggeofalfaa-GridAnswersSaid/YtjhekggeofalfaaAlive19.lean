/- noonmarklaw19.alive returns true. -/
import Derived.Test.YtjhekggeofalfaaGrid3
namespace Go.Proofs.Ytjhekggeofalfaa
open Go.RowKit

set_option maxRecDepth 100000 in
set_option maxHeartbeats 8000000 in
theorem alive19_any (w : World) : Calls Try.prog 32 #[] w fun e w' => e = .returned (.bool true) ∧ Below w.heap.size w w' := by
  go_enter Try.func32, Try.ntmps32
  go_wp2_with fail
  refine (gridNew_any 10 2 20 _).mono ?_
  rw [show nwOf 10 2 20 10 = 10 by decide]
  rw [show nwOf 10 2 20 2 = 2 by decide]
  rw [show nwOf 10 2 20 20 = 20 by decide]
  rw [show neOf 10 2 20 = 0 by decide]
  rintro e w1 ⟨rfl, t⟩
  have B := hid ((Blks.nil w).below t)
  replace B := hid (B.out.add (.cells #[.int .i64 10, .int .i64 2, .int .i64 20] 53))
  clear t 
  go_wp2_with fail
  refine (gridNew_any 0 0 0 _).mono ?_
  rw [show nwOf 0 0 0 0 = 0 by decide]
  rw [show neOf 0 0 0 = 11 by decide]
  rintro e w2 ⟨rfl, t⟩
  replace B := hid (B.out.below t)
  replace B := hid (B.out.add (.cells #[.int .i64 0, .int .i64 0, .int .i64 0] 53))
  clear t 
  obtain ⟨a0, a1, a2⟩ := B.out.c3 mem1
  go_wp2_with fail
  refine (gridSpan_any 10 2 20 2 _ ⟨by decide, by decide⟩).mono ?_
  rw [show spLo 10 2 20 2 = 20 by decide]
  rw [show spHi 10 2 20 2 = 29 by decide]
  rw [show spE 10 2 20 2 = 0 by decide]
  rintro e w3 ⟨rfl, t⟩
  replace B := hid (B.out.below t)
  replace B := hid (B.out.add (.cells #[.int .i64 20, .int .i64 29] 23))
  clear t a0 a1 a2
  obtain ⟨a0, a1, a2⟩ := B.out.c3 mem2
  go_wp2_with fail
  refine (gridMeets_any 10 2 20 18 31 _ ⟨by decide, by decide⟩ ⟨by decide, by decide⟩).mono ?_
  rw [show msA 10 2 20 18 31 = 1 by decide]
  rw [show msB 10 2 20 18 31 = 3 by decide]
  rw [show msE 10 2 20 18 31 = 0 by decide]
  rintro e w4 ⟨rfl, t⟩
  replace B := hid (B.out.below t)
  clear t a0 a1 a2
  obtain ⟨a0, a1, a2⟩ := B.out.c3 mem2
  go_wp2_with fail
  refine (gridPick_any 10 2 20 18 31 _ ⟨by decide, by decide⟩ ⟨by decide, by decide⟩).mono ?_
  rw [show pkV 10 2 20 18 31 = 2 by decide]
  rw [show pkE 10 2 20 18 31 = 0 by decide]
  rintro e w5 ⟨rfl, t⟩
  replace B := hid (B.out.below t)
  clear t a0 a1 a2
  obtain ⟨a0, a1, a2⟩ := B.out.c3 mem2
  go_wp2_with fail
  refine (gridPick_any 10 2 20 18 39 _ ⟨by decide, by decide⟩ ⟨by decide, by decide⟩).mono ?_
  rw [show pkV 10 2 20 18 39 = 0 by decide]
  rw [show pkE 10 2 20 18 39 = 17 by decide]
  rintro e w6 ⟨rfl, t⟩
  replace B := hid (B.out.below t)
  clear t a0 a1 a2
  obtain ⟨a0, a1, a2⟩ := B.out.c3 mem2
  go_wp2_with fail
  refine (gridWindow_any 10 2 20 (-1) _ ⟨by decide, by decide⟩).mono ?_
  rw [show winOf 10 2 20 (-1) = -1 by decide]
  rintro e w7 ⟨rfl, t⟩
  replace B := hid (B.out.below t)
  clear t a0 a1 a2
  obtain ⟨a0, a1, a2⟩ := B.out.c3 mem2
  obtain ⟨b0, b1⟩ := B.out.c2 mem0
  go_wp2_with fail
  refine (gridCertain_any 10 2 20 20 29 _ ⟨by decide, by decide⟩ ⟨by decide, by decide⟩).mono ?_
  rw [show ceOf 10 2 20 20 29 = true by decide]
  rintro e w8 ⟨rfl, t⟩
  replace B := hid (B.out.below t)
  clear t a0 a1 a2 b0 b1
  obtain ⟨a0, a1, a2⟩ := B.out.c3 mem2
  go_wp2_with fail
  refine (gridCertain_any 10 2 20 19 20 _ ⟨by decide, by decide⟩ ⟨by decide, by decide⟩).mono ?_
  rw [show ceOf 10 2 20 19 20 = false by decide]
  rintro e w9 ⟨rfl, t⟩
  replace B := hid (B.out.below t)
  clear t a0 a1 a2
  go_wp2_with fail
  go_ret
  exact ⟨rfl, B.out.bel⟩
end Go.Proofs.Ytjhekggeofalfaa
