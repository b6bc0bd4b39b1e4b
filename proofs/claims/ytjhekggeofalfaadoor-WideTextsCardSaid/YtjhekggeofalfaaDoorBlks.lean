/- What a call has made so far: blocks that are known whole, on top of a world that is as it was. -/
import Derived.Test.YtjhekggeofalfaaDoorPlain
namespace Go.Proofs.YtjhekggeofalfaaDoor
open Go.RowKit

/-- Below w's blocks the world W is as w was, and each listed block holds what the list says. -/
def Blks (w W : World) (l : List (Nat × Obj)) : Prop := Below w.heap.size w W ∧ ∀ x ∈ l, W.heap[x.1]? = some x.2
theorem Blks.nil (w : World) : Blks w w [] := ⟨Below.refl _ _, fun _ h => by cases h⟩
theorem Blks.bel {w W : World} {l : List (Nat × Obj)} (h : Blks w W l) : Below w.heap.size w W := h.1
theorem Blks.below {w W W' : World} {l : List (Nat × Obj)} (h : Blks w W l) (hb : Below W.heap.size W W') : Blks w W' l :=
  ⟨h.1.trans (hb.mono h.1.size), fun x hx => (hb.block x.1 (Array.getElem?_eq_some_iff.1 (h.2 x hx)).1).trans (h.2 x hx)⟩
theorem Blks.drew {w W : World} {l : List (Nat × Obj)} (h : Blks w W l) : Blks w W.drew l := ⟨h.1.drew, h.2⟩
theorem Blks.keep {w W : World} {l : List (Nat × Obj)} (h : Blks w W l) (o : Obj) : Blks w (W.alloc o) l := h.below ((Below.refl _ _).alloc (Nat.le_refl _) o)
theorem Blks.add {w W : World} {l : List (Nat × Obj)} (h : Blks w W l) (o : Obj) : Blks w (W.alloc o) ((W.heap.size, o) :: l) :=
  ⟨(h.keep o).1, fun x hx => by
    rcases List.mem_cons.1 hx with rfl | hx
    · exact heap_alloc_new W o
    · exact (h.keep o).2 x hx⟩
theorem Blks.two (w : World) (o1 o2 : Obj) : Blks w ((w.alloc o1).alloc o2) [(w.heap.size + 1, o2), (w.heap.size, o1)] := by
  have h := ((Blks.nil w).add o1).add o2
  rwa [show (w.alloc o1).heap.size = w.heap.size + 1 by simp] at h
theorem Blks.three (w : World) (o1 o2 o3 : Obj) : Blks w (((w.alloc o1).alloc o2).alloc o3) [(w.heap.size + 1 + 1, o3), (w.heap.size + 1, o2), (w.heap.size, o1)] := by
  have h := (Blks.two w o1 o2).add o3
  rwa [show ((w.alloc o1).alloc o2).heap.size = w.heap.size + 1 + 1 by simp] at h
theorem Blks.swap {w W : World} {a b : Nat × Obj} (h : Blks w W [a, b]) : Blks w W [b, a] := ⟨h.1, fun x hx => h.2 x (by simp at hx ⊢; exact hx.symm)⟩
theorem Blks.sub {w W : World} {l m : List (Nat × Obj)} (h : Blks w W l) (hs : ∀ x ∈ m, x ∈ l) : Blks w W m := ⟨h.1, fun x hx => h.2 x (hs x hx)⟩
theorem Blks.at_ {w W : World} {l : List (Nat × Obj)} (h : Blks w W l) {g : Nat} {o : Obj} (hm : (g, o) ∈ l) : W.heap[g]? = some o := h.2 _ hm
theorem Blks.lt {w W : World} {l : List (Nat × Obj)} (h : Blks w W l) {g : Nat} {o : Obj} (hm : (g, o) ∈ l) : g < W.heap.size := (Array.getElem?_eq_some_iff.1 (h.at_ hm)).1
theorem blk_frozen {w : World} {g : Nat} {cs : Array Value} {e : TypeId} (h : w.heap[g]? = some (Obj.cells cs e (0, 0))) (i : Nat) : w.frozen? ⟨g, i, none⟩ = false := by
  simp [World.frozen?, h]
/-- The cells of a block of one, two or three cells. -/
theorem Blks.c1 {w W : World} {l : List (Nat × Obj)} (h : Blks w W l) {g : Nat} {x : Value} {e : TypeId} (hm : (g, Obj.cells #[x] e (0, 0)) ∈ l) :
    W.cell? ⟨g, 0, none⟩ = some x := (cell_of_row W g 0 _ _ _ (h.at_ hm)).trans rfl
theorem Blks.c2 {w W : World} {l : List (Nat × Obj)} (h : Blks w W l) {g : Nat} {x y : Value} {e : TypeId} (hm : (g, Obj.cells #[x, y] e (0, 0)) ∈ l) :
    W.cell? ⟨g, 0, none⟩ = some x ∧ W.cell? ⟨g, 1, none⟩ = some y := ⟨(cell_of_row W g 0 _ _ _ (h.at_ hm)).trans rfl, (cell_of_row W g 1 _ _ _ (h.at_ hm)).trans rfl⟩
theorem Blks.c3 {w W : World} {l : List (Nat × Obj)} (h : Blks w W l) {g : Nat} {x y z : Value} {e : TypeId} (hm : (g, Obj.cells #[x, y, z] e (0, 0)) ∈ l) :
    W.cell? ⟨g, 0, none⟩ = some x ∧ W.cell? ⟨g, 1, none⟩ = some y ∧ W.cell? ⟨g, 2, none⟩ = some z :=
  ⟨(cell_of_row W g 0 _ _ _ (h.at_ hm)).trans rfl, (cell_of_row W g 1 _ _ _ (h.at_ hm)).trans rfl, (cell_of_row W g 2 _ _ _ (h.at_ hm)).trans rfl⟩
theorem Blks.fz {w W : World} {l : List (Nat × Obj)} (h : Blks w W l) {g : Nat} {cs : Array Value} {e : TypeId} (hm : (g, Obj.cells cs e (0, 0)) ∈ l) (i : Nat) : W.frozen? ⟨g, i, none⟩ = false := blk_frozen (h.at_ hm) i
/-- A goal about a world is shown from what is known of it. -/
theorem wp_blks {P : Program} {c : Code} {Q : Exit → Act → World → Prop} {a : Act} {W : World} (w : World) (l : List (Nat × Obj)) (h : Blks w W l) (k : ∀ W, Blks w W l → c.wp P Q a W) : c.wp P Q a W := k W h
theorem calls_blks {P : Program} {f : FuncId} {args : Array Value} {R : Ending → World → Prop} {W : World} (w : World) (l : List (Nat × Obj)) (h : Blks w W l) (k : ∀ W, Blks w W l → Calls P f args W R) : Calls P f args W R := k W h
theorem below_set2 {B : Nat} {a W : World} {g : Nat} (h : Below B a W) (hg : B ≤ g) (x y : Value) : Below B a ((W.setCell ⟨g, 0, none⟩ x).setCell ⟨g, 1, none⟩ y) :=
  (h.setCell (p := ⟨g, 0, none⟩) hg x).setCell (p := ⟨g, 1, none⟩) hg y
theorem mem0 {α : Type} {x : α} {l : List α} : x ∈ x :: l := List.mem_cons_self ..
theorem mem1 {α : Type} {x a0 : α} {l : List α} : x ∈ a0 :: x :: l := List.mem_cons_of_mem _ mem0
theorem mem2 {α : Type} {x a0 a1 : α} {l : List α} : x ∈ a0 :: a1 :: x :: l := List.mem_cons_of_mem _ mem1
theorem mem3 {α : Type} {x a0 a1 a2 : α} {l : List α} : x ∈ a0 :: a1 :: a2 :: x :: l := List.mem_cons_of_mem _ mem2
theorem mem4 {α : Type} {x a0 a1 a2 a3 : α} {l : List α} : x ∈ a0 :: a1 :: a2 :: a3 :: x :: l := List.mem_cons_of_mem _ mem3
theorem mem5 {α : Type} {x a0 a1 a2 a3 a4 : α} {l : List α} : x ∈ a0 :: a1 :: a2 :: a3 :: a4 :: x :: l := List.mem_cons_of_mem _ mem4
theorem mem6 {α : Type} {x a0 a1 a2 a3 a4 a5 : α} {l : List α} : x ∈ a0 :: a1 :: a2 :: a3 :: a4 :: a5 :: x :: l := List.mem_cons_of_mem _ mem5
theorem mem7 {α : Type} {x a0 a1 a2 a3 a4 a5 a6 : α} {l : List α} : x ∈ a0 :: a1 :: a2 :: a3 :: a4 :: a5 :: a6 :: x :: l := List.mem_cons_of_mem _ mem6
theorem mem8 {α : Type} {x a0 a1 a2 a3 a4 a5 a6 a7 : α} {l : List α} : x ∈ a0 :: a1 :: a2 :: a3 :: a4 :: a5 :: a6 :: a7 :: x :: l := List.mem_cons_of_mem _ mem7
theorem mem9 {α : Type} {x a0 a1 a2 a3 a4 a5 a6 a7 a8 : α} {l : List α} : x ∈ a0 :: a1 :: a2 :: a3 :: a4 :: a5 :: a6 :: a7 :: a8 :: x :: l := List.mem_cons_of_mem _ mem8
theorem mem10 {α : Type} {x a0 a1 a2 a3 a4 a5 a6 a7 a8 a9 : α} {l : List α} : x ∈ a0 :: a1 :: a2 :: a3 :: a4 :: a5 :: a6 :: a7 :: a8 :: a9 :: x :: l := List.mem_cons_of_mem _ mem9
theorem mem11 {α : Type} {x a0 a1 a2 a3 a4 a5 a6 a7 a8 a9 a10 : α} {l : List α} : x ∈ a0 :: a1 :: a2 :: a3 :: a4 :: a5 :: a6 :: a7 :: a8 :: a9 :: a10 :: x :: l := List.mem_cons_of_mem _ mem10
theorem mem12 {α : Type} {x a0 a1 a2 a3 a4 a5 a6 a7 a8 a9 a10 a11 : α} {l : List α} : x ∈ a0 :: a1 :: a2 :: a3 :: a4 :: a5 :: a6 :: a7 :: a8 :: a9 :: a10 :: a11 :: x :: l := List.mem_cons_of_mem _ mem11
theorem mem13 {α : Type} {x a0 a1 a2 a3 a4 a5 a6 a7 a8 a9 a10 a11 a12 : α} {l : List α} : x ∈ a0 :: a1 :: a2 :: a3 :: a4 :: a5 :: a6 :: a7 :: a8 :: a9 :: a10 :: a11 :: a12 :: x :: l := List.mem_cons_of_mem _ mem12
theorem mem14 {α : Type} {x a0 a1 a2 a3 a4 a5 a6 a7 a8 a9 a10 a11 a12 a13 : α} {l : List α} : x ∈ a0 :: a1 :: a2 :: a3 :: a4 :: a5 :: a6 :: a7 :: a8 :: a9 :: a10 :: a11 :: a12 :: a13 :: x :: l := List.mem_cons_of_mem _ mem13
theorem mem15 {α : Type} {x a0 a1 a2 a3 a4 a5 a6 a7 a8 a9 a10 a11 a12 a13 a14 : α} {l : List α} : x ∈ a0 :: a1 :: a2 :: a3 :: a4 :: a5 :: a6 :: a7 :: a8 :: a9 :: a10 :: a11 :: a12 :: a13 :: a14 :: x :: l := List.mem_cons_of_mem _ mem14
end Go.Proofs.YtjhekggeofalfaaDoor
