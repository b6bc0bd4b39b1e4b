/- A slice of int64 values that comes in; a slice of bytes. -/
import Derived.Test.YtjhekggeofalfaaDoorFrameW
import Derived.Test.YtjhekggeofalfaaDoorWide10
import Derived.Deep.Slices
import Derived.Deep.Fields
namespace Go.Proofs.YtjhekggeofalfaaDoor
open Go.ChangeShapes Go.WideShapes Go.ChangeAt Go.RowKit Go.Joins Go.Deep

theorem cells_long : Tryd.prog.cellsOf 2 = 1 := by kernel_rfl
set_option maxRecDepth 100000 in
theorem open_longs {H : Type} {enc : TypeId × Value → H} {W : World} {base : Nat} {held : Bool} {A : Option Addr} {len cap : Nat} {d : DataW H} {p : List MemPlace}
    (h : DataW.Trod enc Tryd.prog W base (fun _ => true) held 42 (.slice A len cap) d p) :
    (A = none → len = 0 ∧ cap = 0) ∧ ∃ xs : List Int, IsLongs W (.slice A len cap) xs ∧ xs.length = len ∧ ∀ x ∈ xs, Fits x := by
  obtain ⟨fuel, hf⟩ := h
  rcases open_slice Tryd.underlying42 hf with ⟨hcs, -⟩ | ⟨x, l, c, m, n, D, Pl, hcs, -, hl, hm, hmm, -, hi⟩
  · simp [Value.cells] at hcs
    obtain ⟨rfl, rfl, rfl⟩ := hcs
    exact ⟨fun _ => ⟨rfl, rfl⟩, [], ⟨none, 0, rfl, Nat.le_refl _, Nat.zero_le _, .inl rfl⟩, rfl, fun g hg => by cases hg⟩
  · simp [Value.cells] at hcs
    obtain ⟨rfl, rfl, rfl⟩ := hcs
    simp only [if_true] at hmm
    subst hmm
    have hcell : ∀ i, ∃ g : Int, i < len → W.cell? (x.add i) = some (.int .i64 g) ∧ Fits g := by
      intro i
      by_cases hil : i < len
      · obtain ⟨cs', hc, ht⟩ := hi i (by omega)
        rw [cells_long] at hc
        obtain ⟨_, hcl, hat⟩ := World.cells?_some hc
        obtain ⟨z0, e0, -, w0⟩ := DataW.trod_int Tryd.underlying2 ht
        subst e0
        have h0 := hat 0 (by simp)
        rw [Go.Deep.add_add, Nat.mul_one, Nat.add_zero] at h0
        exact ⟨z0, fun _ => ⟨h0, fits_wf.1 w0⟩⟩
      · exact ⟨0, fun q => absurd q hil⟩
    obtain ⟨G, hG⟩ := Classical.axiomOfChoice hcell
    refine ⟨(fun q => by cases q), (List.range len).map G, ⟨some x, _, by simp, by simpa using hl, hm, ?_⟩, by simp, ?_⟩
    · by_cases h0 : len = 0
      · subst h0; exact .inl rfl
      · right
        obtain ⟨b, off, spot⟩ := x
        have hc := (hG 0 (by omega)).1
        have hspot : spot = none := by simpa [Addr.add] using World.cell?_spot hc
        subst hspot
        refine ⟨b, off, rfl, cell_in (a := ⟨b, off, none⟩) (by simpa [Addr.add] using hc), fun i hil => ?_⟩
        have hil' : i < len := by simpa using hil
        obtain ⟨q0, -⟩ := hG i hil'
        rw [add_none'] at q0
        rw [getD_in _ hil]
        simp only [List.getElem_map, List.getElem_range]
        exact q0
    · intro g hg
      obtain ⟨i, hi', rfl⟩ := List.mem_map.1 hg
      exact (hG i (List.mem_range.1 hi')).2
theorem cells_byte : Tryd.prog.cellsOf 5 = 1 := by kernel_rfl
set_option maxRecDepth 100000 in
theorem open_bytes {H : Type} {enc : TypeId × Value → H} {W : World} {base : Nat} {held : Bool} {A : Option Addr} {len cap : Nat} {d : DataW H} {p : List MemPlace}
    (h : DataW.Trod enc Tryd.prog W base (fun _ => true) held 59 (.slice A len cap) d p) :
    (A = none → len = 0 ∧ cap = 0) ∧ ∃ xs : List Int, IsBys W (.slice A len cap) xs ∧ xs.length = len ∧ Bytes8 xs := by
  obtain ⟨fuel, hf⟩ := h
  rcases open_slice Tryd.underlying59 hf with ⟨hcs, -⟩ | ⟨x, l, c, m, n, D, Pl, hcs, -, hl, hm, hmm, -, hi⟩
  · simp [Value.cells] at hcs
    obtain ⟨rfl, rfl, rfl⟩ := hcs
    exact ⟨fun _ => ⟨rfl, rfl⟩, [], ⟨none, 0, rfl, Nat.le_refl _, Nat.zero_le _, .inl rfl⟩, rfl, fun g hg => by cases hg⟩
  · simp [Value.cells] at hcs
    obtain ⟨rfl, rfl, rfl⟩ := hcs
    simp only [if_true] at hmm
    subst hmm
    have hcell : ∀ i, ∃ g : Int, i < len → W.cell? (x.add i) = some (.int .u8 g) ∧ (0 ≤ g ∧ g < 256) := by
      intro i
      by_cases hil : i < len
      · obtain ⟨cs', hc, ht⟩ := hi i (by omega)
        rw [cells_byte] at hc
        obtain ⟨_, hcl, hat⟩ := World.cells?_some hc
        obtain ⟨z0, e0, -, w0⟩ := DataW.trod_int Tryd.underlying5 ht
        subst e0
        have h0 := hat 0 (by simp)
        rw [Go.Deep.add_add, Nat.mul_one, Nat.add_zero] at h0
        exact ⟨z0, fun _ => ⟨h0, u8_wf.1 w0⟩⟩
      · exact ⟨0, fun q => absurd q hil⟩
    obtain ⟨G, hG⟩ := Classical.axiomOfChoice hcell
    refine ⟨(fun q => by cases q), (List.range len).map G, ⟨some x, _, by simp, by simpa using hl, hm, ?_⟩, by simp, ?_⟩
    · by_cases h0 : len = 0
      · subst h0; exact .inl rfl
      · right
        obtain ⟨b, off, spot⟩ := x
        have hc := (hG 0 (by omega)).1
        have hspot : spot = none := by simpa [Addr.add] using World.cell?_spot hc
        subst hspot
        refine ⟨b, off, rfl, cell_in (a := ⟨b, off, none⟩) (by simpa [Addr.add] using hc), fun i hil => ?_⟩
        have hil' : i < len := by simpa using hil
        obtain ⟨q0, -⟩ := hG i hil'
        rw [add_none'] at q0
        rw [getD_in _ hil]
        simp only [List.getElem_map, List.getElem_range]
        exact q0
    · intro g hg
      obtain ⟨i, hi', rfl⟩ := List.mem_map.1 hg
      exact (hG i (List.mem_range.1 hi')).2
end Go.Proofs.YtjhekggeofalfaaDoor
