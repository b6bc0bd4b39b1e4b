/- A slice of gaps that comes in. -/
import Derived.Test.YtjhekggeofalfaaFrame
import Derived.Test.YtjhekggeofalfaaMeet
import Derived.Deep.Slices
import Derived.Deep.Fields
namespace Go.Proofs.Ytjhekggeofalfaa
open Go.ChangeShapes Go.WideShapes Go.ChangeAt Go.RowKit Go.Joins Go.Deep

section
variable {H : Type} {enc : TypeId × Value → H} {P : Program} {w : World} {base : Nat} {spare : Nat → Bool} {held : Bool}
theorem open_slice_fields {t e : TypeId} {fs : Array Field} {fuel : Nat} {cs : List Value} {x : DataW H × List MemPlace} (ht : P.underlying t = some (.slice e)) (he : P.underlying e = some (.struct fs))
    (hone : oneCellFields P fs = true) (hC : P.cellsOf e = fs.size) (h : DataW.trod enc P w base spare held fuel t cs = some x) :
    (cs = [.slice none 0 0] ∧ x = (.nil, [])) ∨
    ∃ (a : Addr) (len cap m : Nat) (D : Nat → DataW H) (Pl : Nat → List MemPlace), cs = [.slice (some a) len cap] ∧ base ≤ a.block ∧ len ≤ cap ∧ cap ≤ maxLen ∧ m = (if spare a.block then cap else len) ∧
      x = (.slice ((List.range len).map D) ((List.range (m - len)).map fun j => D (len + j)), MemPlace.row a (m * fs.size) ++ (List.range m).flatMap Pl) ∧
      ∀ i, i < m → ∃ (ys : List (DataW H × List MemPlace)) (n : Nat), D i = .agg (ys.map (·.1)) ∧ Pl i = ys.flatMap (·.2) ∧ ys.length = fs.size ∧
        ∀ (j : Nat) (f : Field), fs[j]? = some f → ∃ (v : Value) (y : DataW H × List MemPlace), w.cell? (a.add (i * fs.size + j)) = some v ∧ ys[j]? = some y ∧ DataW.trod enc P w base spare held n f.type [v] = some y := by
  rcases open_slice ht h with h0 | ⟨a, len, cap, m, n, D, Pl, hcs, hb, hl, hm, hmm, hx, hi⟩
  · exact .inl h0
  · refine .inr ⟨a, len, cap, m, D, Pl, hcs, hb, hl, hm, hmm, by rw [hC] at hx; exact hx, fun i him => ?_⟩
    obtain ⟨cs', hc, ht'⟩ := hi i him
    rw [hC] at hc
    obtain ⟨ys, n', hn', hy, hlen, hyl, hf⟩ := DataW.trod_struct he ht'
    obtain ⟨_, hcl, hat⟩ := World.cells?_some hc
    simp only [Prod.mk.injEq] at hy
    refine ⟨ys, n', hy.1, hy.2, hyl, fun j f hj => ?_⟩
    obtain ⟨ho, hk⟩ := hone_of hone j f hj
    have hjl : j < fs.size := (Array.getElem?_eq_some_iff.1 hj).1
    have hcell := hat j hjl
    have hv : cs'[j]? = some (cs'[j]'(by omega)) := List.getElem?_eq_getElem (by omega)
    have h1 := hf j f hj
    rw [ho, hk] at h1
    have hone' : (cs'.drop j).take 1 = [cs'[j]'(by omega)] := by
      rw [List.drop_eq_getElem_cons (by omega)]
      rfl
    rw [hone'] at h1
    have hys : ys[j]? = some (ys[j]'(by omega)) := List.getElem?_eq_getElem (by omega)
    refine ⟨_, _, ?_, hys, h1.trans hys⟩
    rw [← Go.Deep.add_add, hcell, hv]
end

theorem add_none (b o n : Nat) : Addr.add ⟨b, o, none⟩ n = ⟨b, o + n, none⟩ := by
  unfold Addr.add; split <;> simp_all
theorem cell_block {w : World} {a : Addr} {v : Value} (h : w.cell? a = some v) : a.block < w.heap.size := by
  obtain ⟨b, o, s⟩ := a
  unfold World.cell? at h
  by_cases hb : b < w.heap.size
  · exact hb
  · simp [Array.getElem?_eq_none (by omega : w.heap.size ≤ b)] at h
set_option maxRecDepth 100000 in
theorem open_gaps {H : Type} {enc : TypeId × Value → H} {W : World} {base : Nat} {held : Bool} {A : Option Addr} {len cap : Nat} {d : DataW H} {p : List MemPlace}
    (h : DataW.Trod enc Try.prog W base (fun _ => true) held 43 (.slice A len cap) d p) :
    ∃ gs : List G2, IsGaps W (.slice A len cap) gs ∧ gs.length = len ∧ ∀ g ∈ gs, Fits g.1 ∧ Fits g.2 := by
  obtain ⟨fuel, hf⟩ := h
  rcases open_slice_fields Try.underlying43 Try.underlying23 (by kernel_rfl) cells_gap hf with ⟨hcs, -⟩ | ⟨x, l, c, m, D, Pl, hcs, -, hl, hm, hmm, -, hi⟩
  · simp [Value.cells] at hcs
    obtain ⟨rfl, rfl, rfl⟩ := hcs
    exact ⟨[], ⟨none, 0, rfl, Nat.le_refl _, Nat.zero_le _, .inl rfl⟩, rfl, fun g hg => by cases hg⟩
  · simp [Value.cells] at hcs
    obtain ⟨rfl, rfl, rfl⟩ := hcs
    simp only [if_true] at hmm
    subst hmm
    have hcell : ∀ i, ∃ g : G2, i < len → W.cell? (x.add (i * 2)) = some (.int .i64 g.1) ∧ W.cell? (x.add (i * 2 + 1)) = some (.int .i64 g.2) ∧ Fits g.1 ∧ Fits g.2 := by
      intro i
      by_cases hil : i < len
      · obtain ⟨ys, n, -, -, -, hfj⟩ := hi i (by omega)
        obtain ⟨u0, y0, hc0, -, ht0⟩ := hfj 0 _ rfl
        obtain ⟨u1, y1, hc1, -, ht1⟩ := hfj 1 _ rfl
        obtain ⟨z0, e0, -, w0⟩ := DataW.trod_int Try.underlying2 ht0
        obtain ⟨z1, e1, -, w1⟩ := DataW.trod_int Try.underlying2 ht1
        simp at e0 e1
        subst e0 e1
        exact ⟨(z0, z1), fun _ => ⟨hc0, hc1, fits_wf.1 w0, fits_wf.1 w1⟩⟩
      · exact ⟨(0, 0), fun q => absurd q hil⟩
    obtain ⟨G, hG⟩ := Classical.axiomOfChoice hcell
    refine ⟨(List.range len).map G, ⟨some x, _, by simp, by simpa using hl, hm, ?_⟩, by simp, ?_⟩
    · by_cases h0 : len = 0
      · subst h0; exact .inl rfl
      · right
        obtain ⟨b, off, spot⟩ := x
        have hc := (hG 0 (by omega)).1
        have hspot : spot = none := by simpa [Addr.add] using World.cell?_spot hc
        subst hspot
        refine ⟨b, off, rfl, cell_block (a := ⟨b, off, none⟩) (by simpa [Addr.add] using hc), fun i hil => ?_⟩
        have hil' : i < len := by simpa using hil
        obtain ⟨q0, q1, -, -⟩ := hG i hil'
        rw [add_none] at q0 q1
        simp only [List.getElem_map, List.getElem_range]
        exact ⟨q0, by rw [Nat.add_assoc]; exact q1⟩
    · intro g hg
      obtain ⟨i, hi', rfl⟩ := List.mem_map.1 hg
      obtain ⟨-, -, f0, f1⟩ := hG i (List.mem_range.1 hi')
      exact ⟨f0, f1⟩
set_option maxRecDepth 100000 in
theorem gaps_nil {H : Type} {enc : TypeId × Value → H} {W : World} {base : Nat} {held : Bool} {A : Option Addr} {len cap : Nat} {d : DataW H} {p : List MemPlace}
    (h : DataW.Trod enc Try.prog W base (fun _ => true) held 43 (.slice A len cap) d p) : A = none → len = 0 ∧ cap = 0 := by
  obtain ⟨fuel, hf⟩ := h
  rcases open_slice_fields Try.underlying43 Try.underlying23 (by kernel_rfl) cells_gap hf with ⟨hcs, -⟩ | ⟨x, l, c, m, D, Pl, hcs, -, hl, hm, hmm, -, hi⟩
  · simp [Value.cells] at hcs
    obtain ⟨rfl, rfl, rfl⟩ := hcs
    exact fun _ => ⟨rfl, rfl⟩
  · simp [Value.cells] at hcs
    obtain ⟨rfl, rfl, rfl⟩ := hcs
    intro h; cases h
end Go.Proofs.Ytjhekggeofalfaa
