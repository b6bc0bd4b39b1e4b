/- A region that draws its order, whose operations read and whose callees read or make memory: one walk of the lexical order serves every order; the class of worlds is 'what the call has made so far stands'. -/
import Derived.Test.YtjhekggeofalfaaDoorBlks
import Derived.BigQuiet
namespace Go.Proofs.YtjhekggeofalfaaDoor
open Go.RowKit

/-- The worlds over w in which the blocks l stand. -/
def Wd (w : World) (l : List (Nat × Obj)) : Type := {W : World // Blks w W l}
def Wd.now {w : World} {l : List (Nat × Obj)} (s : Wd w l) : World := s.1
theorem Wd.blks {w : World} {l : List (Nat × Obj)} (s : Wd w l) : Blks w s.now l := s.2
theorem Wd.some_ {w W : World} {l : List (Nat × Obj)} (h : Blks w W l) : Nonempty (Wd w l) := ⟨⟨W, h⟩⟩

theorem wp_region_tame {P : Program} {id : Nat} {ops : List Oper} {Q : Exit → Act → World → Prop} {a : Act} {W : World} (w : World) (l : List (Nat × Obj)) (hl : Blks w W l)
    (hm : P.follows .mixedOrders = true) (hB : Region.lexB .any ops.toArray = true)
    (h : wpQuiet P ops.toArray (fun W' => ∃ s : Wd w l, W' = s.now) (fun a' => ∀ W', (∃ s : Wd w l, W' = s.now) → Q .normal a' W') ops a) : (Code.region id ops.toArray true).wp P Q a W :=
  wp_region_quiet (C := fun W' => ∃ s : Wd w l, W' = s.now) hm hB ⟨⟨W.drew, hl.drew⟩, rfl⟩ (by simpa using h)
theorem wd_all {w : World} {l : List (Nat × Obj)} {K : World → Prop} (h : ∀ W, Blks w W l → K W) : ∀ W', (∃ s : Wd w l, W' = s.now) → K W' := by
  rintro _ ⟨s, rfl⟩; exact h _ s.blks
/-- A callee that makes memory, or only reads. -/
theorem Calls.tame {P : Program} {f : FuncId} {args : Array Value} {w : World} {l : List (Nat × Obj)} {s : Wd w l} {v : Value}
    (h : Calls P f args s.now fun e w' => e = .returned v ∧ Below s.now.heap.size s.now w') : Calls P f args s.now fun e w'' => e = .returned v ∧ ∃ s' : Wd w l, w'' = s'.now :=
  h.mono fun _ w' ⟨he, hb⟩ => ⟨he, ⟨w', s.blks.below hb⟩, rfl⟩
theorem Wd.c1 {w : World} {l : List (Nat × Obj)} {g : Nat} {x : Value} {e : TypeId} (hm : (g, Obj.cells #[x] e (0, 0)) ∈ l) : ∀ s : Wd w l, s.now.cell? ⟨g, 0, none⟩ = some x := fun s => s.blks.c1 hm
theorem Wd.c2 {w : World} {l : List (Nat × Obj)} {g : Nat} {x y : Value} {e : TypeId} (hm : (g, Obj.cells #[x, y] e (0, 0)) ∈ l) :
    (∀ s : Wd w l, s.now.cell? ⟨g, 0, none⟩ = some x) ∧ (∀ s : Wd w l, s.now.cell? ⟨g, 1, none⟩ = some y) := ⟨fun s => (s.blks.c2 hm).1, fun s => (s.blks.c2 hm).2⟩
theorem Wd.c3 {w : World} {l : List (Nat × Obj)} {g : Nat} {x y z : Value} {e : TypeId} (hm : (g, Obj.cells #[x, y, z] e (0, 0)) ∈ l) :
    (∀ s : Wd w l, s.now.cell? ⟨g, 0, none⟩ = some x) ∧ (∀ s : Wd w l, s.now.cell? ⟨g, 1, none⟩ = some y) ∧ (∀ s : Wd w l, s.now.cell? ⟨g, 2, none⟩ = some z) :=
  ⟨fun s => (s.blks.c3 hm).1, fun s => (s.blks.c3 hm).2.1, fun s => (s.blks.c3 hm).2.2⟩
/-- The same where the list is behind a letter. -/
theorem Blks.letter {w W : World} {l : List (Nat × Obj)} (h : Blks w W l) : ∃ L, Hid (L = l) ∧ Hid (Blks w W L) := ⟨l, rfl, h⟩
theorem Wd.k1 {w : World} {L l : List (Nat × Obj)} (hL : Hid (L = l)) {g : Nat} {x : Value} {e : TypeId} (hm : (g, Obj.cells #[x] e (0, 0)) ∈ l) : ∀ s : Wd w L, s.now.cell? ⟨g, 0, none⟩ = some x := fun s => s.blks.c1 (by rw [hL.out]; exact hm)
theorem Wd.k2 {w : World} {L l : List (Nat × Obj)} (hL : Hid (L = l)) {g : Nat} {x y : Value} {e : TypeId} (hm : (g, Obj.cells #[x, y] e (0, 0)) ∈ l) :
    (∀ s : Wd w L, s.now.cell? ⟨g, 0, none⟩ = some x) ∧ (∀ s : Wd w L, s.now.cell? ⟨g, 1, none⟩ = some y) := ⟨fun s => (s.blks.c2 (by rw [hL.out]; exact hm)).1, fun s => (s.blks.c2 (by rw [hL.out]; exact hm)).2⟩
theorem Wd.k3 {w : World} {L l : List (Nat × Obj)} (hL : Hid (L = l)) {g : Nat} {x y z : Value} {e : TypeId} (hm : (g, Obj.cells #[x, y, z] e (0, 0)) ∈ l) :
    (∀ s : Wd w L, s.now.cell? ⟨g, 0, none⟩ = some x) ∧ (∀ s : Wd w L, s.now.cell? ⟨g, 1, none⟩ = some y) ∧ (∀ s : Wd w L, s.now.cell? ⟨g, 2, none⟩ = some z) :=
  ⟨fun s => (s.blks.c3 (by rw [hL.out]; exact hm)).1, fun s => (s.blks.c3 (by rw [hL.out]; exact hm)).2.1, fun s => (s.blks.c3 (by rw [hL.out]; exact hm)).2.2⟩
theorem cell_in {w : World} {a : Addr} {v : Value} (h : w.cell? a = some v) : a.block < w.heap.size := by
  obtain ⟨b, o, s⟩ := a
  unfold World.cell? at h
  by_cases hb : b < w.heap.size
  · exact hb
  · simp [Array.getElem?_eq_none (by omega : w.heap.size ≤ b)] at h
theorem Wd.arg {w : World} {l : List (Nat × Obj)} {p : Addr} {v : Value} (h : w.cell? p = some v) : ∀ s : Wd w l, s.now.cell? p = some v := fun s => (s.blks.bel.cell (cell_in h)).trans h
/-- A cell that was there at the call. -/
theorem Wd.old {w : World} {l : List (Nat × Obj)} {p : Addr} {v : Value} (hlt : p.block < w.heap.size) (h : w.cell? p = some v) : ∀ s : Wd w l, s.now.cell? p = some v := fun s => (s.blks.bel.cell hlt).trans h
end Go.Proofs.YtjhekggeofalfaaDoor
