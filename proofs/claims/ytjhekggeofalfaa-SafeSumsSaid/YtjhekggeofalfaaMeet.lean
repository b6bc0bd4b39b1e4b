/- Contracts of gap.Meet and gap.Hull. -/
import Derived.Test.YtjhekggeofalfaaGaps
namespace Go.Proofs.Ytjhekggeofalfaa
open Go.RowKit

def meetS : G2 := (-9223372036854775808, 9223372036854775807)
def hullS : G2 := (9223372036854775807, -9223372036854775808)
def mtLo (gs : List G2) : Int := foldLo meet2 meetS gs
def mtHi (gs : List G2) : Int := foldHi meet2 meetS gs
def mtErr (gs : List G2) : Int := foldErr meet2 meetS gs
def huLo (gs : List G2) : Int := foldLo hull2 hullS gs
def huHi (gs : List G2) : Int := foldHi hull2 hullS gs
def huErr (gs : List G2) : Int := foldErr hull2 hullS gs

theorem mtLo_eq (gs : List G2) : foldLo meet2 meetS gs = mtLo gs := rfl
theorem mtHi_eq (gs : List G2) : foldHi meet2 meetS gs = mtHi gs := rfl
theorem mtErr_eq (gs : List G2) : foldErr meet2 meetS gs = mtErr gs := rfl
theorem huLo_eq (gs : List G2) : foldLo hull2 hullS gs = huLo gs := rfl
theorem huHi_eq (gs : List G2) : foldHi hull2 hullS gs = huHi gs := rfl
theorem huErr_eq (gs : List G2) : foldErr hull2 hullS gs = huErr gs := rfl

set_option maxRecDepth 20000 in
set_option maxHeartbeats 1000000 in
theorem gapMeet_any (v : Value) (gs : List G2) (w : World) (h : IsGaps w v gs) :
    Calls Try.prog 27 #[v] w fun e w' => e = .returned (.tuple #[gapV (mtLo gs) (mtHi gs), .int .i64 (mtErr gs)]) ∧ Below w.heap.size w w' := by
  have H := hid h
  clear h
  have HB0 := hid ((Blks.nil w).add (.cells #[.int .i64 0, .int .i64 0] 23))
  go_enter Try.func27, Try.ntmps27
  go_wp2_with fail
  refine (foldMeet_any meetS v gs _ ((H.out.alloc _).alloc _)).mono ?_
  rintro e w1 ⟨rfl, b1⟩
  have B1 := hid ((HB0.out.keep _).below b1)
  clear b1
  obtain ⟨r0, r1⟩ := B1.out.c2 mem0
  have z0 := B1.out.fz mem0 0
  have z1 := B1.out.fz mem0 1
  rw [mtLo_eq, mtHi_eq, mtErr_eq]
  go_wp2_with fail
  exact bodyPost_ret (v := .tuple #[gapV (mtLo gs) (mtHi gs), .int .i64 (mtErr gs)]) (by simp [results, Try.results27, go_sem, r0, r1]) rfl ⟨rfl, below_set2 B1.out.bel (Nat.le_refl _) _ _⟩
set_option maxRecDepth 20000 in
set_option maxHeartbeats 1000000 in
theorem gapHull_any (v : Value) (gs : List G2) (w : World) (h : IsGaps w v gs) :
    Calls Try.prog 28 #[v] w fun e w' => e = .returned (.tuple #[gapV (huLo gs) (huHi gs), .int .i64 (huErr gs)]) ∧ Below w.heap.size w w' := by
  have H := hid h
  clear h
  have HB0 := hid ((Blks.nil w).add (.cells #[.int .i64 0, .int .i64 0] 23))
  go_enter Try.func28, Try.ntmps28
  go_wp2_with fail
  refine (foldHull_any hullS v gs _ ((H.out.alloc _).alloc _)).mono ?_
  rintro e w1 ⟨rfl, b1⟩
  have B1 := hid ((HB0.out.keep _).below b1)
  clear b1
  obtain ⟨r0, r1⟩ := B1.out.c2 mem0
  have z0 := B1.out.fz mem0 0
  have z1 := B1.out.fz mem0 1
  rw [huLo_eq, huHi_eq, huErr_eq]
  go_wp2_with fail
  exact bodyPost_ret (v := .tuple #[gapV (huLo gs) (huHi gs), .int .i64 (huErr gs)]) (by simp [results, Try.results28, go_sem, r0, r1]) rfl ⟨rfl, below_set2 B1.out.bel (Nat.le_refl _) _ _⟩
/-- A literal of two gaps. -/
theorem IsGaps.two (w : World) (a b c d : Int) : IsGaps (w.alloc (.cells #[.int .i64 a, .int .i64 b, .int .i64 c, .int .i64 d] 23)) (.slice (some ⟨w.heap.size, 0, none⟩) 2 2) [(a, b), (c, d)] := by
  refine ⟨_, 2, rfl, by simp, by simp [maxLen], .inr ⟨w.heap.size, 0, rfl, by simp, fun i hi => ?_⟩⟩
  have hb := heap_alloc_new w (.cells #[.int .i64 a, .int .i64 b, .int .i64 c, .int .i64 d] 23)
  match i, hi with
  | 0, _ => exact ⟨(cell_of_row _ _ _ _ _ _ hb).trans rfl, (cell_of_row _ _ _ _ _ _ hb).trans rfl⟩
  | 1, _ => exact ⟨(cell_of_row _ _ _ _ _ _ hb).trans rfl, (cell_of_row _ _ _ _ _ _ hb).trans rfl⟩

theorem IsGaps.two' (w : World) (o : Obj) (a b c d : Int) : IsGaps ((w.alloc o).alloc (.cells #[.int .i64 a, .int .i64 b, .int .i64 c, .int .i64 d] 23)) (.slice (some ⟨w.heap.size + 1, 0, none⟩) 2 2) [(a, b), (c, d)] := by
  have h := IsGaps.two (w.alloc o) a b c d
  rwa [show (w.alloc o).heap.size = w.heap.size + 1 by simp] at h
end Go.Proofs.Ytjhekggeofalfaa
