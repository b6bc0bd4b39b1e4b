/- Contract of noonmarkref01.Cmp (Num4 without told, Plus, Minus). -/
import Derived.Test.YtjhekggeofalfaaDoorNum3
namespace Go.Proofs.YtjhekggeofalfaaDoor
open Go.RowKit

theorem Small.add {x y : Int} (hx : Fits x) (hy : Fits y) : Small (x + y) := by
  obtain ⟨h1, h2⟩ := hx; obtain ⟨h3, h4⟩ := hy; exact small_of (by omega)
theorem Small.sub {x y : Int} (hx : Fits x) (hy : Fits y) : Small (x - y) := by
  obtain ⟨h1, h2⟩ := hx; obtain ⟨h3, h4⟩ := hy; exact small_of (by omega)

/-- Two new blocks of Num's cells on top of w, which are only read. -/
def Two (w : World) (p q : Bool) (s t : Value) (W : World) : Prop :=
  Below w.heap.size w W ∧ w.heap.size + 2 ≤ W.heap.size ∧ W.heap[w.heap.size]? = some (Obj.cells #[.bool p, s] 34 (0, 0)) ∧
    W.heap[w.heap.size + 1]? = some (Obj.cells #[.bool q, t] 34 (0, 0))
theorem Two.mk (w : World) (p q : Bool) (s t : Value) : Two w p q s t ((w.alloc (.cells #[.bool p, s] 34)).alloc (.cells #[.bool q, t] 34)) := by
  refine ⟨((Below.refl _ _).alloc (Nat.le_refl _) _).alloc (by simp) _, by simp, ?_, alloc2_new w _ _⟩
  rw [Below.heap_alloc _ _ _ (by simp), heap_alloc_new]
theorem Two.below {w W W' : World} {p q : Bool} {s t : Value} (h : Two w p q s t W) (hb : Below W.heap.size W W') : Two w p q s t W' := by
  obtain ⟨h1, h2, h3, h4⟩ := h
  have hs := hb.size
  exact ⟨h1.trans (hb.mono (by omega)), by omega, (hb.block _ (by omega)).trans h3, (hb.block _ (by omega)).trans h4⟩
theorem Two.drew {w W : World} {p q : Bool} {s t : Value} (h : Two w p q s t W) : Two w p q s t W.drew := ⟨h.1.drew, h.2⟩
theorem Two.alloc {w W : World} {p q : Bool} {s t : Value} (h : Two w p q s t W) (o : Obj) : Two w p q s t (W.alloc o) := h.below ((Below.refl _ _).alloc (Nat.le_refl _) o)
theorem Two.all {w W : World} {p q : Bool} {s t : Value} (h : Two w p q s t W) :
    W.cell? ⟨w.heap.size, 0, none⟩ = some (.bool p) ∧ W.cell? ⟨w.heap.size, 1, none⟩ = some s ∧ W.cell? ⟨w.heap.size + 1, 0, none⟩ = some (.bool q) ∧ W.cell? ⟨w.heap.size + 1, 1, none⟩ = some t :=
  ⟨(cell_of_row W _ 0 _ _ _ h.2.2.1).trans rfl, (cell_of_row W _ 1 _ _ _ h.2.2.1).trans rfl, (cell_of_row W _ 0 _ _ _ h.2.2.2).trans rfl, (cell_of_row W _ 1 _ _ _ h.2.2.2).trans rfl⟩
theorem Two.num {w W : World} {p q : Bool} {s t v : Value} {z : Int} (h : Two w p q s t W) (hn : NumIs w v z) : NumIs W v z := hn.below h.1

theorem below_two {B : Nat} {a W : World} {g : Nat} (h : Below B a W) (hg : B ≤ g) (x y : Value) : Below B a ((W.setCell ⟨g, 0, none⟩ x).setCell ⟨g, 1, none⟩ y) :=
  (h.setCell (p := ⟨g, 0, none⟩) hg x).setCell (p := ⟨g, 1, none⟩) hg y
theorem Two.sz {w W : World} {p q : Bool} {s t : Value} (h : Two w p q s t W) : w.heap.size + 2 ≤ W.heap.size := h.2.1
theorem Two.after {w W : World} {p q : Bool} {s t : Value} {g : Nat} (h : Two w p q s t W) (hg : w.heap.size + 2 ≤ g) (x y : Value) :
    ((W.setCell ⟨g, 0, none⟩ x).setCell ⟨g, 1, none⟩ y).cell? ⟨w.heap.size, 0, none⟩ = some (.bool p) ∧ ((W.setCell ⟨g, 0, none⟩ x).setCell ⟨g, 1, none⟩ y).cell? ⟨w.heap.size, 1, none⟩ = some s ∧
    ((W.setCell ⟨g, 0, none⟩ x).setCell ⟨g, 1, none⟩ y).cell? ⟨w.heap.size + 1, 0, none⟩ = some (.bool q) ∧ ((W.setCell ⟨g, 0, none⟩ x).setCell ⟨g, 1, none⟩ y).cell? ⟨w.heap.size + 1, 1, none⟩ = some t := by
  have e : ∀ b o, b < w.heap.size + 2 → ((W.setCell ⟨g, 0, none⟩ x).setCell ⟨g, 1, none⟩ y).cell? ⟨b, o, none⟩ = W.cell? ⟨b, o, none⟩ := fun b o hb => by
    rw [World.cell?_setCell_other _ _ _ _ (by intro h; injection h; omega), World.cell?_setCell_other _ _ _ _ (by intro h; injection h; omega)]
  rw [e _ _ (by omega), e _ _ (by omega), e _ _ (by omega), e _ _ (by omega)]
  exact h.all
theorem canon_len_zero {ds : List Int} {z : Int} (hc : Canon ds) (hv : val ds = z.natAbs) : ds.length = 0 ↔ z = 0 := by
  constructor
  · intro h
    rw [List.eq_nil_of_length_eq_zero h] at hv
    have : val [] = 0 := rfl
    omega
  · intro h
    rw [hc.zero (by rw [hv, h]; rfl)]; rfl

set_option maxRecDepth 20000 in
set_option maxHeartbeats 4000000 in
theorem cmp_any (v u : Value) (x y : Int) (w : World) (hv : NumIs w v x) (hu : NumIs w u y) (sx : Small x) (sy : Small y) (sd : Small (x - y)) :
    Calls Tryd.prog 18 #[v, u] w fun e w' => e = .returned (.int .i64 (cmpOf x y)) ∧ Below w.heap.size w w' := by
  have HV := hid hv
  have HU := hid hu
  have sny : Small (-y) := by have := sy; unfold Small at *; omega
  have SY := hid sny
  have SX := hid sx
  have SD := hid sd
  clear sx sy sd sny
  obtain ⟨s, a, rfl, hr, -, -⟩ := hv
  obtain ⟨t, b, rfl, hr', -, -⟩ := hu
  obtain ⟨A, c, rfl, -, -, -⟩ := hr
  obtain ⟨A', c', rfl, -, -, -⟩ := hr'
  generalize hp : decide (x < 0) = p at *
  generalize hq : decide (y < 0) = q at *
  generalize a.length = n at *
  generalize b.length = m at *
  clear hp hq
  go_enter Tryd.func18, Tryd.ntmps18
  go_wp2_with fail
  refine wp_world (Two w p q (.slice A n c) (.slice A' m c')) (Two.mk w p q _ _) ?_
  intro W T
  have HT := hid T
  obtain ⟨c0, c1, d0, d1⟩ := T.all
  clear T
  go_region_held3 (fun w' => w'.cell? ⟨w.heap.size, 0, none⟩ = some (.bool p) ∧ w'.cell? ⟨w.heap.size, 1, none⟩ = some (.slice A n c) ∧ w'.cell? ⟨w.heap.size + 1, 0, none⟩ = some (.bool q) ∧ w'.cell? ⟨w.heap.size + 1, 1, none⟩ = some (.slice A' m c'))
    (first | with_reducible exact HT.out.all | with_reducible exact HT.out.drew.all | with_reducible exact T1.out.all | with_reducible exact T2.out.all | with_reducible exact (HT.out.alloc _).drew.all | with_reducible exact (T1.out.alloc _).all | with_reducible exact (T2.out.alloc _).all | with_reducible exact T2.out.after (by first | with_reducible exact HT.out.sz | with_reducible exact T1.out.sz | with_reducible exact T2.out.sz) _ _)
    (first | (go_at_call 16; refine (neg_any _ y _ (by first | with_reducible exact HT.out.drew.num HU.out | with_reducible exact (HT.out.alloc _).drew.num HU.out)).mono ?_; rintro e w1 ⟨v1, rfl, n1, b1⟩; have N1 := hid n1; have T1 := hid (show Two w p q (.slice A n c) (.slice A' m c') w1 from by first | with_reducible exact HT.out.drew.below b1 | with_reducible exact (HT.out.alloc _).drew.below b1); first | (have PB := hid (show w1.heap[W.heap.size]? = some (Obj.cells #[.bool false, .slice none 0 0] 34 (0, 0)) from (b1.block W.heap.size (by simp)).trans (heap_alloc_new W _)); clear n1 b1) | clear n1 b1) | (go_at_call 15; refine (add_any _ v1 x (-y) _ (by first | with_reducible exact T1.out.num HV.out | with_reducible exact (T1.out.alloc _).num HV.out) (by first | with_reducible exact N1.out | with_reducible exact N1.out.alloc _) SX.out SY.out).mono ?_; rintro e w2 ⟨v2, rfl, n2, b2⟩; have N2 := hid n2; have T2 := hid (show Two w p q (.slice A n c) (.slice A' m c') w2 from by first | with_reducible exact T1.out.below b2 | with_reducible exact (T1.out.alloc _).below b2); obtain ⟨s2, d2, rfl, hq2, hq3, hq4⟩ := n2; have LZ := hid (canon_len_zero hq3 hq4); clear hq3 hq4; obtain ⟨A2, k2, rfl, -⟩ := hq2; first | (have QB := hid (show w2.heap[w1.heap.size]? = some (Obj.cells #[.bool false, .slice none 0 0] 34 (0, 0)) from (b2.block w1.heap.size (by simp)).trans (heap_alloc_new w1 _)); obtain ⟨r0, r1, z0, z1⟩ := blk_c QB.out; clear b2) | (have QB := hid (show w2.heap[W.heap.size]? = some (Obj.cells #[.bool false, .slice none 0 0] 34 (0, 0)) from (b2.block W.heap.size (heap_lt PB.out)).trans PB.out); obtain ⟨r0, r1, z0, z1⟩ := blk_c QB.out; clear b2) | clear b2))
  all_goals
    have hxy : decide (x + -y < 0) = decide (x < y) := by
      by_cases h : x < y
      · rw [decide_eq_true h, decide_eq_true (by omega)]
      · rw [decide_eq_false h, decide_eq_false (by omega)]
    rw [hxy]
    clear hxy
    generalize d2.length = l2 at *
    by_cases hl : l2 = 0
    · subst hl
      have HZ := hid (cmpOf_eq (x := x) (y := y) (by have := LZ.out.1 rfl; omega))
      go_wp2_with fail
      go_ret
      exact ⟨ret1 HZ.out.symm, by first | exact below_two T2.out.1 (by have := HT.out.sz; omega) _ _ | exact below_two T2.out.1 (by have := T1.out.sz; omega) _ _ | exact T2.out.1.alloc (by have := T2.out.sz; omega) _⟩
    · have hl' : ((l2 : Int) == 0) = false := by simpa using hl
      by_cases hlt : x < y
      · have HZ := hid (cmpOf_lt hlt)
        rw [decide_eq_true hlt]
        clear hlt
        go_wp2_with fail
        go_ret
        exact ⟨ret1 HZ.out.symm, by first | exact below_two T2.out.1 (by have := HT.out.sz; omega) _ _ | exact below_two T2.out.1 (by have := T1.out.sz; omega) _ _ | exact T2.out.1.alloc (by have := T2.out.sz; omega) _⟩
      · have HZ := hid (cmpOf_gt (x := x) (y := y) (by have : ¬ x + -y = 0 := fun e => hl (LZ.out.2 e); omega))
        rw [decide_eq_false hlt]
        clear hlt
        go_wp2_with fail
        go_ret
        exact ⟨ret1 HZ.out.symm, by first | exact below_two T2.out.1 (by have := HT.out.sz; omega) _ _ | exact below_two T2.out.1 (by have := T1.out.sz; omega) _ _ | exact T2.out.1.alloc (by have := T2.out.sz; omega) _⟩
#print axioms cmp_any
end Go.Proofs.YtjhekggeofalfaaDoor
