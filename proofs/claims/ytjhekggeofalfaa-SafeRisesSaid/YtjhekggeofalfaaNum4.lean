/- Contracts of noonmarkref01: told, Plus, Minus, Cmp. -/
import Derived.Test.YtjhekggeofalfaaNum3
namespace Go.Proofs.Ytjhekggeofalfaa
open Go.RowKit

set_option maxRecDepth 20000 in
set_option maxHeartbeats 1000000 in
theorem told_any (v : Value) (z : Int) (w : World) (h : NumIs w v z) (sz : Small z) :
    Calls Try.prog 71 #[v] w fun e w' => e = .returned (.tuple #[.int .i64 (sat z), .int .i64 (err z)]) ∧ Below w.heap.size w w' := by
  have HN := hid h
  obtain ⟨s, ds, rfl, hr, -, -⟩ := h
  obtain ⟨A, c, rfl, -, -, -⟩ := hr
  by_cases f : Fits z
  · have F := hid f
    rw [sat_yes f, err_yes f]
    clear f
    go_enter Try.func71, Try.ntmps71
    go_wp2_with fail
    refine (long_any _ z _ (HN.out.alloc _) sz).mono ?_
    rintro e w1 ⟨rfl, hb1⟩
    rw [longV_yes F.out, decide_eq_true F.out]
    have HB := hid hb1
    clear hb1
    go_wp2
    go_ret2
    exact ⟨rfl, ((Below.refl _ _).alloc (Nat.le_refl _) _).trans (HB.out.mono (by simp))⟩
  · have F := hid f
    rw [sat_no f, err_no f]
    clear f
    go_enter Try.func71, Try.ntmps71
    go_wp2_with fail
    refine (long_any _ z _ (HN.out.alloc _) sz).mono ?_
    rintro e w1 ⟨rfl, hb1⟩
    rw [decide_eq_false F.out]
    have HB := hid hb1
    clear hb1
    generalize longV z = y
    go_wp2
    go_ret2
    exact ⟨rfl, ((Below.refl _ _).alloc (Nat.le_refl _) _).trans (HB.out.mono (by simp))⟩

theorem Small.add {x y : Int} (hx : Fits x) (hy : Fits y) : Small (x + y) := by
  obtain ⟨h1, h2⟩ := hx; obtain ⟨h3, h4⟩ := hy; exact small_of (by omega)
theorem Small.sub {x y : Int} (hx : Fits x) (hy : Fits y) : Small (x - y) := by
  obtain ⟨h1, h2⟩ := hx; obtain ⟨h3, h4⟩ := hy; exact small_of (by omega)

set_option maxRecDepth 20000 in
set_option maxHeartbeats 1000000 in
theorem plus_long_any (a b : Int) (w : World) (ha : Fits a) (hb : Fits b) :
    Calls Try.prog 55 #[.int .i64 a, .int .i64 b] w fun e w' => e = .returned (.tuple #[.int .i64 (sat (a + b)), .int .i64 (err (a + b))]) ∧ Below w.heap.size w w' := by
  have HA := hid ha
  have HB := hid hb
  clear ha hb
  go_enter Try.func55, Try.ntmps55
  go_wp2_with fail
  refine (of_any a _ HA.out).mono ?_
  rintro e w1 ⟨v1, rfl, n1, b1⟩
  have N1 := hid n1
  have B1 := hid b1
  clear n1 b1
  go_wp2_with fail
  refine (of_any b _ HB.out).mono ?_
  rintro e w2 ⟨v2, rfl, n2, b2⟩
  have N2 := hid n2
  have B2 := hid b2
  clear n2 b2
  go_wp2_with fail
  refine (add_any v1 v2 a b _ (N1.out.below B2.out) N2.out HA.out.small HB.out.small).mono ?_
  rintro e w3 ⟨v3, rfl, n3, b3⟩
  have N3 := hid n3
  have B3 := hid b3
  clear n3 b3
  go_wp2_with fail
  refine (told_any v3 (a + b) _ N3.out (Small.add HA.out HB.out)).mono ?_
  rintro e w4 ⟨rfl, b4⟩
  have B4 := hid b4
  clear b4
  go_wp2
  go_ret2
  have s1 := B1.out.size; have s2 := B2.out.size; have s3 := B3.out.size
  exact ⟨rfl, B1.out.trans ((B2.out.mono s1).trans ((B3.out.mono (by omega)).trans (B4.out.mono (by omega))))⟩

set_option maxRecDepth 20000 in
set_option maxHeartbeats 1000000 in
theorem minus_long_any (a b : Int) (w : World) (ha : Fits a) (hb : Fits b) :
    Calls Try.prog 56 #[.int .i64 a, .int .i64 b] w fun e w' => e = .returned (.tuple #[.int .i64 (sat (a - b)), .int .i64 (err (a - b))]) ∧ Below w.heap.size w w' := by
  have HA := hid ha
  have HB := hid hb
  clear ha hb
  go_enter Try.func56, Try.ntmps56
  go_wp2_with fail
  refine (of_any a _ HA.out).mono ?_
  rintro e w1 ⟨v1, rfl, n1, b1⟩
  have N1 := hid n1
  have B1 := hid b1
  clear n1 b1
  go_wp2_with fail
  refine (of_any b _ HB.out).mono ?_
  rintro e w2 ⟨v2, rfl, n2, b2⟩
  have N2 := hid n2
  have B2 := hid b2
  clear n2 b2
  go_wp2_with fail
  refine (neg_any v2 b _ N2.out).mono ?_
  rintro e w5 ⟨v5, rfl, n5, b5⟩
  have N5 := hid n5
  have B5 := hid b5
  clear n5 b5
  go_wp2_with fail
  have sb : Small (-b) := by obtain ⟨h1, h2⟩ := HB.out; exact small_of (by omega)
  refine (add_any v1 v5 a (-b) _ ((N1.out.below B2.out).below B5.out) N5.out HA.out.small sb).mono ?_
  rintro e w3 ⟨v3, rfl, n3, b3⟩
  have N3 := hid n3
  have B3 := hid b3
  clear n3 b3 sb
  go_wp2_with fail
  refine (told_any v3 (a - b) _ N3.out (Small.sub HA.out HB.out)).mono ?_
  rintro e w4 ⟨rfl, b4⟩
  have B4 := hid b4
  clear b4
  go_wp2
  go_ret2
  have s1 := B1.out.size; have s2 := B2.out.size; have s3 := B3.out.size; have s5 := B5.out.size
  exact ⟨rfl, B1.out.trans ((B2.out.mono s1).trans ((B5.out.mono (by omega)).trans ((B3.out.mono (by omega)).trans (B4.out.mono (by omega)))))⟩

/-- Two new blocks of Num's cells on top of w, which are only read. -/
def Two (w : World) (p q : Bool) (s t : Value) (W : World) : Prop :=
  Below w.heap.size w W ∧ w.heap.size + 2 ≤ W.heap.size ∧ W.heap[w.heap.size]? = some (Obj.cells #[.bool p, s] 85 (0, 0)) ∧
    W.heap[w.heap.size + 1]? = some (Obj.cells #[.bool q, t] 85 (0, 0))
theorem Two.mk (w : World) (p q : Bool) (s t : Value) : Two w p q s t ((w.alloc (.cells #[.bool p, s] 85)).alloc (.cells #[.bool q, t] 85)) := by
  refine ⟨((Below.refl _ _).alloc (Nat.le_refl _) _).alloc (by simp) _, by simp, ?_, alloc2_new w _ _⟩
  rw [Below.heap_alloc _ _ _ (by simp), heap_alloc_new]
theorem Two.below {w W W' : World} {p q : Bool} {s t : Value} (h : Two w p q s t W) (hb : Below W.heap.size W W') : Two w p q s t W' := by
  obtain ⟨h1, h2, h3, h4⟩ := h
  have hs := hb.size
  exact ⟨h1.trans (hb.mono (by omega)), by omega, (hb.block _ (by omega)).trans h3, (hb.block _ (by omega)).trans h4⟩
theorem Two.drew {w W : World} {p q : Bool} {s t : Value} (h : Two w p q s t W) : Two w p q s t W.drew := ⟨h.1.drew, h.2⟩
theorem Two.alloc {w W : World} {p q : Bool} {s t : Value} (h : Two w p q s t W) (o : Obj) : Two w p q s t (W.alloc o) := h.below ((Below.refl _ _).alloc (Nat.le_refl _) o)
theorem Two.all {w W : World} {p q : Bool} {s t : Value} (h : Two w p q s t W) :
    W.cell? ⟨w.heap.size, 0, none⟩ = some (.bool p) ∧ W.cell? ⟨w.heap.size, 1, none⟩ = some s ∧ W.cell? ⟨w.heap.size + 1, 0, none⟩ = some (.bool q) ∧ W.cell? ⟨w.heap.size + 1, 1, none⟩ = some t :=
  ⟨(cell_of_row W _ 0 _ _ _ h.2.2.1).trans rfl, (cell_of_row W _ 1 _ _ _ h.2.2.1).trans rfl, (cell_of_row W _ 0 _ _ _ h.2.2.2).trans rfl, (cell_of_row W _ 1 _ _ _ h.2.2.2).trans rfl⟩
theorem Two.num {w W : World} {p q : Bool} {s t v : Value} {z : Int} (h : Two w p q s t W) (hn : NumIs w v z) : NumIs W v z := hn.below h.1

theorem below_two {B : Nat} {a W : World} {g : Nat} (h : Below B a W) (hg : B ≤ g) (x y : Value) : Below B a ((W.setCell ⟨g, 0, none⟩ x).setCell ⟨g, 1, none⟩ y) :=
  (h.setCell (p := ⟨g, 0, none⟩) hg x).setCell (p := ⟨g, 1, none⟩) hg y
theorem Two.sz {w W : World} {p q : Bool} {s t : Value} (h : Two w p q s t W) : w.heap.size + 2 ≤ W.heap.size := h.2.1
theorem Two.after {w W : World} {p q : Bool} {s t : Value} {g : Nat} (h : Two w p q s t W) (hg : w.heap.size + 2 ≤ g) (x y : Value) :
    ((W.setCell ⟨g, 0, none⟩ x).setCell ⟨g, 1, none⟩ y).cell? ⟨w.heap.size, 0, none⟩ = some (.bool p) ∧ ((W.setCell ⟨g, 0, none⟩ x).setCell ⟨g, 1, none⟩ y).cell? ⟨w.heap.size, 1, none⟩ = some s ∧
    ((W.setCell ⟨g, 0, none⟩ x).setCell ⟨g, 1, none⟩ y).cell? ⟨w.heap.size + 1, 0, none⟩ = some (.bool q) ∧ ((W.setCell ⟨g, 0, none⟩ x).setCell ⟨g, 1, none⟩ y).cell? ⟨w.heap.size + 1, 1, none⟩ = some t := by
  have e : ∀ b o, b < w.heap.size + 2 → ((W.setCell ⟨g, 0, none⟩ x).setCell ⟨g, 1, none⟩ y).cell? ⟨b, o, none⟩ = W.cell? ⟨b, o, none⟩ := fun b o hb => by
    rw [World.cell?_setCell_other _ _ _ _ (by intro h; injection h; omega), World.cell?_setCell_other _ _ _ _ (by intro h; injection h; omega)]
  rw [e _ _ (by omega), e _ _ (by omega), e _ _ (by omega), e _ _ (by omega)]
  exact h.all
theorem canon_len_zero {ds : List Int} {z : Int} (hc : Canon ds) (hv : val ds = z.natAbs) : ds.length = 0 ↔ z = 0 := by
  constructor
  · intro h
    rw [List.eq_nil_of_length_eq_zero h] at hv
    have : val [] = 0 := rfl
    omega
  · intro h
    rw [hc.zero (by rw [hv, h]; rfl)]; rfl

set_option maxRecDepth 20000 in
set_option maxHeartbeats 4000000 in
theorem cmp_any (v u : Value) (x y : Int) (w : World) (hv : NumIs w v x) (hu : NumIs w u y) (sx : Small x) (sy : Small y) (sd : Small (x - y)) :
    Calls Try.prog 67 #[v, u] w fun e w' => e = .returned (.int .i64 (cmpOf x y)) ∧ Below w.heap.size w w' := by
  have HV := hid hv
  have HU := hid hu
  have sny : Small (-y) := by have := sy; unfold Small at *; omega
  have SY := hid sny
  have SX := hid sx
  have SD := hid sd
  clear sx sy sd sny
  obtain ⟨s, a, rfl, hr, -, -⟩ := hv
  obtain ⟨t, b, rfl, hr', -, -⟩ := hu
  obtain ⟨A, c, rfl, -, -, -⟩ := hr
  obtain ⟨A', c', rfl, -, -, -⟩ := hr'
  generalize hp : decide (x < 0) = p at *
  generalize hq : decide (y < 0) = q at *
  generalize a.length = n at *
  generalize b.length = m at *
  clear hp hq
  go_enter Try.func67, Try.ntmps67
  go_wp2_with fail
  refine wp_world (Two w p q (.slice A n c) (.slice A' m c')) (Two.mk w p q _ _) ?_
  intro W T
  have HT := hid T
  obtain ⟨c0, c1, d0, d1⟩ := T.all
  clear T
  go_region_held3 (fun w' => w'.cell? ⟨w.heap.size, 0, none⟩ = some (.bool p) ∧ w'.cell? ⟨w.heap.size, 1, none⟩ = some (.slice A n c) ∧ w'.cell? ⟨w.heap.size + 1, 0, none⟩ = some (.bool q) ∧ w'.cell? ⟨w.heap.size + 1, 1, none⟩ = some (.slice A' m c'))
    (first | with_reducible exact HT.out.all | with_reducible exact HT.out.drew.all | with_reducible exact T1.out.all | with_reducible exact T2.out.all | with_reducible exact (HT.out.alloc _).drew.all | with_reducible exact (T1.out.alloc _).all | with_reducible exact (T2.out.alloc _).all | with_reducible exact T2.out.after (by first | with_reducible exact HT.out.sz | with_reducible exact T1.out.sz | with_reducible exact T2.out.sz) _ _)
    (first | (go_at_call 77; refine (neg_any _ y _ (by first | with_reducible exact HT.out.drew.num HU.out | with_reducible exact (HT.out.alloc _).drew.num HU.out)).mono ?_; rintro e w1 ⟨v1, rfl, n1, b1⟩; have N1 := hid n1; have T1 := hid (show Two w p q (.slice A n c) (.slice A' m c') w1 from by first | with_reducible exact HT.out.drew.below b1 | with_reducible exact (HT.out.alloc _).drew.below b1); first | (have PB := hid (show w1.heap[W.heap.size]? = some (Obj.cells #[.bool false, .slice none 0 0] 85 (0, 0)) from (b1.block W.heap.size (by simp)).trans (heap_alloc_new W _)); clear n1 b1) | clear n1 b1) | (go_at_call 60; refine (add_any _ v1 x (-y) _ (by first | with_reducible exact T1.out.num HV.out | with_reducible exact (T1.out.alloc _).num HV.out) (by first | with_reducible exact N1.out | with_reducible exact N1.out.alloc _) SX.out SY.out).mono ?_; rintro e w2 ⟨v2, rfl, n2, b2⟩; have N2 := hid n2; have T2 := hid (show Two w p q (.slice A n c) (.slice A' m c') w2 from by first | with_reducible exact T1.out.below b2 | with_reducible exact (T1.out.alloc _).below b2); obtain ⟨s2, d2, rfl, hq2, hq3, hq4⟩ := n2; have LZ := hid (canon_len_zero hq3 hq4); clear hq3 hq4; obtain ⟨A2, k2, rfl, -⟩ := hq2; first | (have QB := hid (show w2.heap[w1.heap.size]? = some (Obj.cells #[.bool false, .slice none 0 0] 85 (0, 0)) from (b2.block w1.heap.size (by simp)).trans (heap_alloc_new w1 _)); obtain ⟨r0, r1, z0, z1⟩ := blk_c QB.out; clear b2) | (have QB := hid (show w2.heap[W.heap.size]? = some (Obj.cells #[.bool false, .slice none 0 0] 85 (0, 0)) from (b2.block W.heap.size (heap_lt PB.out)).trans PB.out); obtain ⟨r0, r1, z0, z1⟩ := blk_c QB.out; clear b2) | clear b2))
  all_goals
    have hxy : decide (x + -y < 0) = decide (x < y) := by
      by_cases h : x < y
      · rw [decide_eq_true h, decide_eq_true (by omega)]
      · rw [decide_eq_false h, decide_eq_false (by omega)]
    rw [hxy]
    clear hxy
    generalize d2.length = l2 at *
    by_cases hl : l2 = 0
    · subst hl
      have HZ := hid (cmpOf_eq (x := x) (y := y) (by have := LZ.out.1 rfl; omega))
      go_wp2_with fail
      go_ret
      exact ⟨ret1 HZ.out.symm, by first | exact below_two T2.out.1 (by have := HT.out.sz; omega) _ _ | exact below_two T2.out.1 (by have := T1.out.sz; omega) _ _ | exact T2.out.1.alloc (by have := T2.out.sz; omega) _⟩
    · have hl' : ((l2 : Int) == 0) = false := by simpa using hl
      by_cases hlt : x < y
      · have HZ := hid (cmpOf_lt hlt)
        rw [decide_eq_true hlt]
        clear hlt
        go_wp2_with fail
        go_ret
        exact ⟨ret1 HZ.out.symm, by first | exact below_two T2.out.1 (by have := HT.out.sz; omega) _ _ | exact below_two T2.out.1 (by have := T1.out.sz; omega) _ _ | exact T2.out.1.alloc (by have := T2.out.sz; omega) _⟩
      · have HZ := hid (cmpOf_gt (x := x) (y := y) (by have : ¬ x + -y = 0 := fun e => hl (LZ.out.2 e); omega))
        rw [decide_eq_false hlt]
        clear hlt
        go_wp2_with fail
        go_ret
        exact ⟨ret1 HZ.out.symm, by first | exact below_two T2.out.1 (by have := HT.out.sz; omega) _ _ | exact below_two T2.out.1 (by have := T1.out.sz; omega) _ _ | exact T2.out.1.alloc (by have := T2.out.sz; omega) _⟩
#print axioms cmp_any
end Go.Proofs.Ytjhekggeofalfaa
