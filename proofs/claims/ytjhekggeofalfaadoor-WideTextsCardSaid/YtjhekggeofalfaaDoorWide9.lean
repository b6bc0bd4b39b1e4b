/- Contract of wide.Bytes. -/
import Derived.Test.YtjhekggeofalfaaDoorBow
import Derived.Test.YtjhekggeofalfaaDoorWide8
import Derived.OwnWalk
namespace Go.Proofs.YtjhekggeofalfaaDoor
open Go.RowKit

def wbyte (z : Int) (j : Nat) : Int := z / 256 ^ (15 - j) % 256
def wlist (z : Int) (k : Nat) : List Int := (List.range 16).map fun j => if 8 - k ≤ j ∧ j < 8 ∨ 16 - k ≤ j then wbyte z j else 0
theorem wlist_length (z : Int) (k : Nat) : (wlist z k).length = 16 := by simp [wlist]
theorem wlist_zero (z : Int) : wlist z 0 = List.replicate 16 0 := by
  unfold wlist
  refine List.ext_getElem (by simp) fun i h1 h2 => ?_
  have : i < 16 := by simpa using h1
  simp only [List.getElem_map, List.getElem_range, List.getElem_replicate]
  rw [if_neg (by omega)]
theorem wlist_step (z : Int) {k : Nat} (hk : k < 8) : ((wlist z k).set (7 - k) (wbyte z (7 - k))).set (15 - k) (wbyte z (15 - k)) = wlist z (k + 1) := by
  unfold wlist
  refine List.ext_getElem (by simp) fun i h1 h2 => ?_
  have : i < 16 := by simpa using h1
  simp only [List.getElem_set, List.getElem_map, List.getElem_range]
  by_cases e1 : 15 - k = i
  · rw [if_pos e1, if_pos (by omega), e1]
  · rw [if_neg e1]
    by_cases e2 : 7 - k = i
    · rw [if_pos e2, if_pos (by omega), e2]
    · rw [if_neg e2]
      by_cases e3 : 8 - k ≤ i ∧ i < 8 ∨ 16 - k ≤ i
      · rw [if_pos e3, if_pos (by omega)]
      · rw [if_neg e3, if_neg (by omega)]
theorem eight {p : Nat → Prop} (h0 : p 0) (h1 : p 1) (h2 : p 2) (h3 : p 3) (h4 : p 4) (h5 : p 5) (h6 : p 6) (h7 : p 7) {k : Nat} (hk : k < 8) : p k := by
  match k, hk with
  | 0, _ => exact h0
  | 1, _ => exact h1
  | 2, _ => exact h2
  | 3, _ => exact h3
  | 4, _ => exact h4
  | 5, _ => exact h5
  | 6, _ => exact h6
  | 7, _ => exact h7
theorem wbyte_hi (z : Int) {k : Nat} (hk : k < 8) : IntKind.u64.wrap (z / 18446744073709551616) / 2 ^ (8 * k) % 256 = wbyte z (7 - k) := by
  rw [u64_wrap]
  unfold wbyte
  refine eight (p := fun k => z / 18446744073709551616 % 18446744073709551616 / 2 ^ (8 * k) % 256 = z / 256 ^ (15 - (7 - k)) % 256) ?_ ?_ ?_ ?_ ?_ ?_ ?_ ?_ hk
  all_goals
    simp only [Nat.reduceMul, Nat.reduceSub, Int.reducePow]
    omega
theorem wbyte_lo (z : Int) {k : Nat} (hk : k < 8) : z % 18446744073709551616 / 2 ^ (8 * k) % 256 = wbyte z (15 - k) := by
  unfold wbyte
  refine eight (p := fun k => z % 18446744073709551616 / 2 ^ (8 * k) % 256 = z / 256 ^ (15 - (15 - k)) % 256) ?_ ?_ ?_ ?_ ?_ ?_ ?_ ?_ hk
  all_goals
    simp only [Nat.reduceMul, Nat.reduceSub, Int.reducePow]
    omega
theorem size1 (w : World) (o : Obj) : (w.alloc o).heap.size = w.heap.size + 1 := by simp
def WBytesAt (w : World) (z : Int) (i : Value) (wr : World) : Prop :=
  ∃ k : Nat, k ≤ 8 ∧ i = .int .i64 k ∧ Blks w wr [(w.heap.size + 1, Obj.cells (bowOf (wlist z k)) 5 (0, 0)), (w.heap.size, Obj.cells #[.int .i64 (z / 18446744073709551616), .int .u64 (z % 18446744073709551616)] 24 (0, 0))]

set_option maxRecDepth 20000 in
set_option maxHeartbeats 1000000 in
theorem wideBytes_any (z : Int) (w : World) (h : Fits2 z) :
    Calls Tryd.prog 31 #[wideV z] w fun e w' => e = .returned (.slice (some ⟨w.heap.size + 1, 0, none⟩) 16 16) ∧ Below w.heap.size w w' ∧ w'.heap[w.heap.size + 1]? = some (Obj.cells (bowOf (wlist z 8)) 5 (0, 0)) := by
  obtain ⟨i0, hi0, hz0, hz1, hz2⟩ := info_parts infoByte
  unfold wideV
  have A1 := hi_fits h
  clear h
  go_enter Tryd.func31, Tryd.ntmps31
  go_wp2_with (at_make; go_must (refine wpList_make_full _ rfl _ _ 59 rfl w.heap.size 5 i0 (.int .u8 0) 1 Tryd.underlying59 hi0 hz0 hz1 .i64 .i64 _ _ 16 rfl rfl (by omega) (by omega) (by rw [hz2]; omega) (by decide) (by simp) ?_); intro w2 own2 grow2)
  have B0 := hid (((Blks.nil w).add (.cells #[.int .i64 (z / 18446744073709551616), .int .u64 (z % 18446744073709551616)] 24)).bmade grow2 rfl own2)
  clear own2 grow2
  rw [size1] at B0
  go_loopw [6] (fun i wr => WBytesAt w z i wr) (fun i _ => 8 - (intOf i).toNat)
  case atStart => exact ⟨0, by omega, rfl, by rw [wlist_zero]; exact B0.out⟩
  case round =>
    obtain ⟨k, hk, rfl, hB⟩ := hrel
    have B := hid hB
    clear hB
    by_cases hlt : k < 8
    · obtain ⟨c0, c1⟩ := B.out.c2 mem1
      have z0 := B.out.fz mem0 (7 - k)
      have z1 := B.out.fz mem0 (15 - k)
      have d0 := B.out.bow mem0 (j := 7 - k) (by rw [wlist_length]; omega)
      have d1 := B.out.bow mem0 (j := 15 - k) (by rw [wlist_length]; omega)
      go_wp2
      rw [wbyte_hi z hlt, wbyte_lo z hlt]
      exact ⟨⟨k + 1, by omega, by go_num, by rw [← wlist_step z hlt]; exact (B.out.bstore (by omega) (by simp) _ _).bstore (by omega) (by simp) _ _⟩, by simp [intOf]; omega⟩
    · have hkn : k = 8 := by omega
      subst hkn
      go_wp2
      go_ret
      exact ⟨rfl, B.out.bel, B.out.at_ mem0⟩
end Go.Proofs.YtjhekggeofalfaaDoor
