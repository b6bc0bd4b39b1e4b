/- Contracts of noonmarkref01: numbers of any length. 'NumIs w v z': in world w the value v is the number z. -/
import Derived.Test.YtjhekggeofalfaaDoorMinus
import Derived.Deep.RegionHeld3
namespace Go.Proofs.YtjhekggeofalfaaDoor
open Go.RowKit

def NumIs (w : World) (v : Value) (z : Int) : Prop :=
  ∃ s ds, v = .agg #[.bool (decide (z < 0)), s] ∧ IsRow w s ds ∧ Canon ds ∧ val ds = z.natAbs
theorem NumIs.below {w w' : World} {v : Value} {z : Int} (h : NumIs w v z) (hb : Below w.heap.size w w') : NumIs w' v z := by
  obtain ⟨s, ds, hv, hr, hc⟩ := h
  exact ⟨s, ds, hv, hr.below hb, hc⟩
theorem NumIs.drew {w : World} {v : Value} {z : Int} (h : NumIs w v z) : NumIs w.drew v z := h
theorem NumIs.alloc {w : World} {v : Value} {z : Int} (h : NumIs w v z) (o : Obj) : NumIs (w.alloc o) v z :=
  h.below ((Below.refl _ _).alloc (Nat.le_refl _) o)

/-- Numbers of at most 40 limbs: far more than what the statements come to. -/
def Small (z : Int) : Prop := (z.natAbs : Int) < pw 40
theorem small_len {z : Int} {ds : List Int} (h : Small z) (hc : Canon ds) (hv : val ds = z.natAbs) : ds.length ≤ 40 := hc.length_le (by rw [hv]; exact h)
theorem small_of {z : Int} (h : (z.natAbs : Int) < 1606938044258990275541962092341162602522202993782792835301376) : Small z := by
  have := pw40
  unfold Small; omega
theorem Fits.small {z : Int} (h : Fits z) : Small z := by obtain ⟨h1, h2⟩ := h; exact small_of (by omega)

/-- A call returned the number z; what was there is as it was. -/
def NumPost (w : World) (z : Int) (e : Ending) (w' : World) : Prop := ∃ v, e = .returned v ∧ NumIs w' v z ∧ Below w.heap.size w w'

/-- What a call has left: all old cells and marks read as before. -/
theorem bcell {W w1 : World} (hb : Below W.heap.size W w1) :
    (∀ b o, b < W.heap.size → w1.cell? ⟨b, o, none⟩ = W.cell? ⟨b, o, none⟩) ∧ (∀ b o, b < W.heap.size → w1.frozen? ⟨b, o, none⟩ = W.frozen? ⟨b, o, none⟩) :=
  ⟨fun b o h => hb.cell (p := ⟨b, o, none⟩) h, fun b o h => hb.frozen (p := ⟨b, o, none⟩) h⟩

/-- The number of a sign and a size. -/
def numOf (neg : Bool) (n : Int) : Int := if neg then -n else n

theorem numOf_true (n : Int) : numOf true n = -n := rfl
theorem numOf_false (n : Int) : numOf false n = n := rfl
theorem numOf_eq (neg : Bool) (n : Int) (h : 0 ≤ n) : (numOf neg n).natAbs = n ∧ decide (numOf neg n < 0) = (neg && decide (0 < n)) := by
  unfold numOf
  cases neg
  · simp; omega
  · simp; omega
theorem len_pos {ds : List Int} (h : ¬ ds = []) : 0 < ds.length := by
  cases ds with
  | nil => exact absurd rfl h
  | cons => simp
/-- A canonical row and a sign that is dropped at 0 are a number. -/
theorem numIs_of {w : World} {neg : Bool} {s : Value} {ds : List Int} {n : Int} (hr : IsRow w s ds) (hc : Canon ds) (hv : val ds = n) (hn : 0 ≤ n) : NumIs w (.agg #[.bool (neg && decide (0 < (ds.length : Int))), s]) (numOf neg n) := by
  have e := numOf_eq neg n hn
  refine ⟨s, ds, ?_, hr, hc, by rw [e.1]; exact hv⟩
  rw [e.2]
  have : decide (0 < (ds.length : Int)) = decide (0 < n) := by
    by_cases hz : ds = []
    · have : n = 0 := by rw [← hv, hz]; rfl
      rw [this, hz]; simp
    · have h1 := len_pos hz
      have h2 := hc.pos hz
      have h3 := pw_pos (ds.length - 1)
      rw [decide_eq_true (show (0 : Int) < ds.length by omega), decide_eq_true (show (0 : Int) < n by omega)]
  rw [this]

set_option maxRecDepth 20000 in
set_option maxHeartbeats 1000000 in
theorem made_any (neg : Bool) (v : Value) (xs : List Int) (w : World) (h : IsRow w v xs) (hl : Limbs xs) :
    Calls Tryd.prog 38 #[.bool neg, v] w (NumPost w (numOf neg (val xs))) := by
  have HH := hid h
  have HP := hid (val_nonneg hl)
  go_enter Tryd.func38, Tryd.ntmps38
  go_wp2_with fail
  refine (trim_any v xs _ (h.alloc _) hl).mono ?_
  rintro e w' ⟨v', k, rfl, h1, h2, h3, rfl⟩
  have H1 := hid (h1 w HH.out)
  clear h1 h hl
  generalize xs.take k = ds at *
  have H2 := hid h2
  have H3 := hid h3
  have H5 := hid (numIs_of (neg := neg) H1.out H2.out H3.out HP.out)
  clear h2 h3 
  obtain ⟨A, c, rfl, -, -, -⟩ := id H1.out
  by_cases hz : ds = []
  · have hlen : ds.length = 0 := by rw [hz]; rfl
    rw [hlen] at H5 ⊢
    clear hz hlen H1 H2 H3
    cases neg
    · go_wp2
      exact bodyPost_ret (v := .agg #[.bool false, .slice A 0 c]) (by simp [results, Tryd.results38, go_sem]) rfl ⟨_, rfl, by have := H5.out.alloc (.cells #[.bool false, .slice A 0 c] 34); simpa using this, (Below.refl _ _).alloc (Nat.le_refl _) _⟩
    · go_wp2
      exact bodyPost_ret (v := .agg #[.bool false, .slice A 0 c]) (by simp [results, Tryd.results38, go_sem]) rfl ⟨_, rfl, by have := H5.out.alloc (.cells #[.bool false, .slice A 0 c] 34); simpa using this, (Below.refl _ _).alloc (Nat.le_refl _) _⟩
  · have hlen := len_pos hz
    have hlen' : decide (0 < (ds.length : Int)) = true := by simp; omega
    rw [hlen'] at H5
    have hlen2 : (0 : Int) < (ds.length : Int) := by omega
    generalize ds.length = n at *
    clear hz hlen' H1 H2 H3
    cases neg
    · go_wp2
      exact bodyPost_ret (v := .agg #[.bool false, .slice A n c]) (by simp [results, Tryd.results38, go_sem]) rfl ⟨_, rfl, by have := H5.out.alloc (.cells #[.bool false, .slice A n c] 34); simpa using this, (Below.refl _ _).alloc (Nat.le_refl _) _⟩
    · go_wp2
      exact bodyPost_ret (v := .agg #[.bool true, .slice A n c]) (by simp [results, Tryd.results38, go_sem]) rfl ⟨_, rfl, by have := H5.out.alloc (.cells #[.bool true, .slice A n c] 34); simpa using this, (Below.refl _ _).alloc (Nat.le_refl _) _⟩

/-- A world is taken by what is known of it. -/
theorem wp_world {P : Program} {c : Code} {Q : Exit → Act → World → Prop} {a : Act} {w : World} (F : World → Prop) (h : F w) (k : ∀ W, F W → c.wp P Q a W) : c.wp P Q a w := k w h

theorem calls_world {P : Program} {f : FuncId} {args : Array Value} {R : Ending → World → Prop} {w : World} (F : World → Prop) (h : F w) (k : ∀ W, F W → Calls P f args W R) : Calls P f args w R := k w h
theorem cmpOf_ge {x y : Int} (h : y ≤ x) : 0 ≤ cmpOf x y := by
  unfold cmpOf; split
  · decide
  · rw [if_neg (by omega)]; decide
theorem cmpOf_not {x y : Int} (h : x < y) : ¬ 0 ≤ cmpOf x y := by rw [cmpOf_lt h]; decide

theorem frozen_blk {w : World} {g : Nat} {cs : Array Value} {e : TypeId} (h : w.heap[g]? = some (Obj.cells cs e (0, 0))) (i : Nat) : w.frozen? ⟨g, i, none⟩ = false := by
  simp [World.frozen?, h]

/-- Three new blocks for Num's cells on top of w: two that are read, one for the result. -/
def Three (w : World) (p q : Bool) (s t : Value) (W : World) : Prop :=
  Below w.heap.size w W ∧ w.heap.size + 3 ≤ W.heap.size ∧ W.heap[w.heap.size]? = some (Obj.cells #[.bool p, s] 34 (0, 0)) ∧
    W.heap[w.heap.size + 1]? = some (Obj.cells #[.bool q, t] 34 (0, 0)) ∧
    W.heap[w.heap.size + 1 + 1]? = some (Obj.cells #[.bool false, .slice none 0 0] 34 (0, 0))
theorem Three.mk (w : World) (p q : Bool) (s t : Value) :
    Three w p q s t (((w.alloc (.cells #[.bool p, s] 34)).alloc (.cells #[.bool q, t] 34)).alloc (.cells #[.bool false, .slice none 0 0] 34)) := by
  refine ⟨(((Below.refl _ _).alloc (Nat.le_refl _) _).alloc (by simp) _).alloc (by simp; omega) _, by simp, ?_, ?_, ?_⟩
  · rw [Below.heap_alloc _ _ _ (by simp; omega), Below.heap_alloc _ _ _ (by simp), heap_alloc_new]
  · rw [Below.heap_alloc _ _ _ (by simp)]
    have := heap_alloc_new (w.alloc (.cells #[.bool p, s] 34)) (.cells #[.bool q, t] 34)
    simpa using this
  · have := heap_alloc_new ((w.alloc (.cells #[.bool p, s] 34)).alloc (.cells #[.bool q, t] 34)) (.cells #[.bool false, .slice none 0 0] 34)
    simpa using this
theorem Three.below {w W W' : World} {p q : Bool} {s t : Value} (h : Three w p q s t W) (hb : Below W.heap.size W W') : Three w p q s t W' := by
  obtain ⟨h1, h2, h3, h4, h5⟩ := h
  have hs := hb.size
  exact ⟨h1.trans (hb.mono (by omega)), by omega, (hb.block _ (by omega)).trans h3, (hb.block _ (by omega)).trans h4, (hb.block _ (by omega)).trans h5⟩
theorem Three.drew {w W : World} {p q : Bool} {s t : Value} (h : Three w p q s t W) : Three w p q s t W.drew := ⟨h.1.drew, h.2⟩
theorem Three.c0 {w W : World} {p q : Bool} {s t : Value} (h : Three w p q s t W) : W.cell? ⟨w.heap.size, 0, none⟩ = some (.bool p) := (cell_of_row W _ 0 _ _ _ h.2.2.1).trans rfl
theorem Three.c1 {w W : World} {p q : Bool} {s t : Value} (h : Three w p q s t W) : W.cell? ⟨w.heap.size, 1, none⟩ = some s := (cell_of_row W _ 1 _ _ _ h.2.2.1).trans rfl
theorem Three.d0 {w W : World} {p q : Bool} {s t : Value} (h : Three w p q s t W) : W.cell? ⟨w.heap.size + 1, 0, none⟩ = some (.bool q) := (cell_of_row W _ 0 _ _ _ h.2.2.2.1).trans rfl
theorem Three.d1 {w W : World} {p q : Bool} {s t : Value} (h : Three w p q s t W) : W.cell? ⟨w.heap.size + 1, 1, none⟩ = some t := (cell_of_row W _ 1 _ _ _ h.2.2.2.1).trans rfl
theorem Three.r0 {w W : World} {p q : Bool} {s t : Value} (h : Three w p q s t W) : W.cell? ⟨w.heap.size + 1 + 1, 0, none⟩ = some (.bool false) := (cell_of_row W _ 0 _ _ _ h.2.2.2.2).trans rfl
theorem Three.r1 {w W : World} {p q : Bool} {s t : Value} (h : Three w p q s t W) : W.cell? ⟨w.heap.size + 1 + 1, 1, none⟩ = some (.slice none 0 0) := (cell_of_row W _ 1 _ _ _ h.2.2.2.2).trans rfl
theorem Three.z {w W : World} {p q : Bool} {s t : Value} (h : Three w p q s t W) (i : Nat) : W.frozen? ⟨w.heap.size + 1 + 1, i, none⟩ = false := frozen_blk h.2.2.2.2 i
theorem Three.row {w W : World} {p q : Bool} {s t v : Value} {xs : List Int} (h : Three w p q s t W) (hr : IsRow w v xs) : IsRow W v xs := hr.below h.1

/-- The four cells that are read. -/
theorem Three.all {w W : World} {p q : Bool} {s t : Value} (h : Three w p q s t W) :
    W.cell? ⟨w.heap.size, 0, none⟩ = some (.bool p) ∧ W.cell? ⟨w.heap.size, 1, none⟩ = some s ∧ W.cell? ⟨w.heap.size + 1, 0, none⟩ = some (.bool q) ∧ W.cell? ⟨w.heap.size + 1, 1, none⟩ = some t := ⟨h.c0, h.c1, h.d0, h.d1⟩
/-- They are there behind the result's store, too. -/
theorem Three.after {w W : World} {p q : Bool} {s t : Value} (h : Three w p q s t W) (x y : Value) :
    ((W.setCell ⟨w.heap.size + 1 + 1, 0, none⟩ x).setCell ⟨w.heap.size + 1 + 1, 1, none⟩ y).cell? ⟨w.heap.size, 0, none⟩ = some (.bool p) ∧
    ((W.setCell ⟨w.heap.size + 1 + 1, 0, none⟩ x).setCell ⟨w.heap.size + 1 + 1, 1, none⟩ y).cell? ⟨w.heap.size, 1, none⟩ = some s ∧
    ((W.setCell ⟨w.heap.size + 1 + 1, 0, none⟩ x).setCell ⟨w.heap.size + 1 + 1, 1, none⟩ y).cell? ⟨w.heap.size + 1, 0, none⟩ = some (.bool q) ∧
    ((W.setCell ⟨w.heap.size + 1 + 1, 0, none⟩ x).setCell ⟨w.heap.size + 1 + 1, 1, none⟩ y).cell? ⟨w.heap.size + 1, 1, none⟩ = some t := by
  have e : ∀ b o, b < w.heap.size + 2 → ((W.setCell ⟨w.heap.size + 1 + 1, 0, none⟩ x).setCell ⟨w.heap.size + 1 + 1, 1, none⟩ y).cell? ⟨b, o, none⟩ = W.cell? ⟨b, o, none⟩ := fun b o hb => by
    rw [World.cell?_setCell_other _ _ _ _ (by intro h; injection h; omega), World.cell?_setCell_other _ _ _ _ (by intro h; injection h; omega)]
  rw [e _ _ (by omega), e _ _ (by omega), e _ _ (by omega), e _ _ (by omega)]
  exact h.all
/-- The result's store, and what the call has left. -/
theorem Three.done {w W : World} {p q : Bool} {s t : Value} (h : Three w p q s t W) {z : Int} {v : Value} (x : Value) (hn : NumIs W (.agg #[x, v]) z) :
    NumIs ((W.setCell ⟨w.heap.size + 1 + 1, 0, none⟩ x).setCell ⟨w.heap.size + 1 + 1, 1, none⟩ v) (.agg #[x, v]) z ∧
    Below w.heap.size w ((W.setCell ⟨w.heap.size + 1 + 1, 0, none⟩ x).setCell ⟨w.heap.size + 1 + 1, 1, none⟩ v) := by
  refine ⟨?_, (h.1.setCell (p := ⟨w.heap.size + 1 + 1, 0, none⟩) (by simp; omega) x).setCell (p := ⟨w.heap.size + 1 + 1, 1, none⟩) (by simp; omega) v⟩
  obtain ⟨s', ds, hv, hr, hc⟩ := hn
  refine ⟨s', ds, hv, ?_, hc⟩
  have h5 := h.2.2.2.2
  have h6 : (W.setCell ⟨w.heap.size + 1 + 1, 0, none⟩ x).heap[w.heap.size + 1 + 1]? = some (Obj.cells (#[.bool false, .slice none 0 0].setIfInBounds 0 x) 34 (0, 0)) := by
    simp [World.setCell, Array.getElem?_modify, h5]
  exact (hr.setCell (p := ⟨w.heap.size + 1 + 1, 0, none⟩) h5 (by decide) x).setCell (p := ⟨w.heap.size + 1 + 1, 1, none⟩) h6 (by decide) v

set_option maxRecDepth 20000 in
set_option maxHeartbeats 4000000 in
theorem add_any (v u : Value) (x y : Int) (w : World) (hv : NumIs w v x) (hu : NumIs w u y) (sx : Small x) (sy : Small y) :
    Calls Tryd.prog 15 #[v, u] w (NumPost w (x + y)) := by
  obtain ⟨s, a, rfl, hr, hc, hva⟩ := hv
  obtain ⟨t, b, rfl, hr', hc', hvb⟩ := hu
  have HR := hid hr
  have HR' := hid hr'
  have HC := hid hc
  have HC' := hid hc'
  have HVA := hid hva
  have HVB := hid hvb
  have la := small_len sx hc hva
  have lb := small_len sy hc' hvb
  have LA := hid la
  have LB := hid lb
  clear hr hr' hc hc' hva hvb la lb sx sy
  by_cases h1 : x < 0
  · by_cases h2 : y < 0
    · have e1 : decide (x < 0) = true := by simpa using h1
      have e2 : decide (y < 0) = true := by simpa using h2
      rw [e1, e2]
      have H1 := hid h1
      have H2 := hid h2
      clear e1 e2 h1 h2
      go_enter Tryd.func15, Tryd.ntmps15
      go_wp2_with fail
      refine wp_world (Three w true true s t) (Three.mk w true true s t) ?_
      intro W T
      have HT := hid T
      obtain ⟨c0, c1, d0, d1⟩ := T.all
      clear T
      go_region_held3 (fun w' => w'.cell? ⟨w.heap.size, 0, none⟩ = some (.bool true) ∧ w'.cell? ⟨w.heap.size, 1, none⟩ = some s ∧ w'.cell? ⟨w.heap.size + 1, 0, none⟩ = some (.bool true) ∧ w'.cell? ⟨w.heap.size + 1, 1, none⟩ = some t)
        (first | exact T2.out.all | exact T1.out.all | exact HT.out.all | exact HT.out.drew.all | exact T2.out.after _ _)
        (first | (go_at_call 39; refine (plus_any s t a b _ (HT.out.drew.row HR.out) (HT.out.drew.row HR'.out) HC.out.limbs HC'.out.limbs (by have := LA.out; omega) (by have := LB.out; omega)).mono ?_; rintro e w1 ⟨v1, l1, rfl, hq1, hq2, hq3, hb1⟩; have Q3 := hid hq3; clear hq3; have T1 := hid (HT.out.drew.below hb1)) | (go_at_call 38; refine (made_any true _ _ _ hq1 hq2.limbs).mono ?_; rintro e w2 ⟨v2, rfl, hn2, hb2⟩; have T2 := hid (T1.out.below hb2); have N2 := hid hn2; obtain ⟨s2, d2, rfl, hq4, -⟩ := hn2; obtain ⟨A2, k2, rfl, -⟩ := hq4; have r0 := T2.out.r0; have r1 := T2.out.r1; have z0 := T2.out.z 0; have z1 := T2.out.z 1))
      have HZ := hid (show numOf true (val l1) = x + y by rw [numOf_true, Q3.out, HVA.out, HVB.out]; have := H1.out; have := H2.out; omega)
      go_wp2
      have D := T2.out.done _ N2.out
      refine bodyPost_ret (v := .agg #[.bool (decide (numOf true (val l1) < 0)), .slice A2 d2.length k2]) (by simp [results, Tryd.results15, go_sem, r0, r1]) rfl ⟨_, rfl, by rw [← HZ.out]; exact D.1, D.2⟩
    · have e1 : decide (x < 0) = true := by simpa using h1
      have e2 : decide (y < 0) = false := by simpa using h2
      rw [e1, e2]
      have H1 := hid h1
      have H2 := hid h2
      clear e1 e2 h1 h2
      go_enter Tryd.func15, Tryd.ntmps15
      go_wp2_with fail
      refine calls_world (Three w true false s t) (Three.mk w true false s t) ?_
      intro W T
      have HT := hid T
      obtain ⟨c0, c1, d0, d1⟩ := T.all
      clear T
      refine (above_any s t a b _ (HT.out.row HR.out) (HT.out.row HR'.out) HC.out.limbs HC'.out.limbs (by have := LA.out; omega) (by have := LB.out; omega)).mono ?_
      rintro e w' ⟨rfl, rfl⟩
      by_cases h3 : val b ≤ val a
      · have hge := cmpOf_ge h3
        have H3 := hid h3
        clear h3
        generalize cmpOf (val a) (val b) = c at *
        go_wp2_with fail
        go_region_held3 (fun w' => w'.cell? ⟨w.heap.size, 0, none⟩ = some (.bool true) ∧ w'.cell? ⟨w.heap.size, 1, none⟩ = some s ∧ w'.cell? ⟨w.heap.size + 1, 0, none⟩ = some (.bool false) ∧ w'.cell? ⟨w.heap.size + 1, 1, none⟩ = some t)
          (first | exact T2.out.all | exact T1.out.all | exact HT.out.all | exact HT.out.drew.all | exact T2.out.after _ _)
          (first | (go_at_call 41; refine (minus_any s t a b _ (HT.out.drew.row HR.out) (HT.out.drew.row HR'.out) HC.out.limbs HC'.out.limbs (by have := LA.out; omega) (Canon.length_mono HC'.out HC.out.limbs H3.out) H3.out).mono ?_; rintro e w1 ⟨v1, l1, rfl, hq1, hq2, hq3, hb1⟩; have Q3 := hid hq3; clear hq3; have T1 := hid (HT.out.drew.below hb1)) | (go_at_call 38; refine (made_any true _ _ _ hq1 hq2.limbs).mono ?_; rintro e w2 ⟨v2, rfl, hn2, hb2⟩; have T2 := hid (T1.out.below hb2); have N2 := hid hn2; obtain ⟨s2, d2, rfl, hq4, -⟩ := hn2; obtain ⟨A2, k2, rfl, -⟩ := hq4; have r0 := T2.out.r0; have r1 := T2.out.r1; have z0 := T2.out.z 0; have z1 := T2.out.z 1))
        have HZ := hid (show numOf true (val l1) = x + y by rw [numOf_true, Q3.out, HVA.out, HVB.out]; have := H1.out; have := H2.out; have := H3.out; rw [HVA.out, HVB.out] at this; omega)
        go_wp2
        have D := T2.out.done _ N2.out
        refine bodyPost_ret (v := .agg #[.bool (decide (numOf true (val l1) < 0)), .slice A2 d2.length k2]) (by simp [results, Tryd.results15, go_sem, r0, r1]) rfl ⟨_, rfl, by rw [← HZ.out]; exact D.1, D.2⟩
      · have hge := cmpOf_not (Int.not_le.1 h3)
        have H3 := hid h3
        clear h3
        generalize cmpOf (val a) (val b) = c at *
        go_wp2_with fail
        go_region_held3 (fun w' => w'.cell? ⟨w.heap.size, 0, none⟩ = some (.bool true) ∧ w'.cell? ⟨w.heap.size, 1, none⟩ = some s ∧ w'.cell? ⟨w.heap.size + 1, 0, none⟩ = some (.bool false) ∧ w'.cell? ⟨w.heap.size + 1, 1, none⟩ = some t)
          (first | exact T2.out.all | exact T1.out.all | exact HT.out.all | exact HT.out.drew.all | exact T2.out.after _ _)
          (first | (go_at_call 41; refine (minus_any t s b a _ (HT.out.drew.row HR'.out) (HT.out.drew.row HR.out) HC'.out.limbs HC.out.limbs (by have := LB.out; omega) (Canon.length_mono HC.out HC'.out.limbs (by have := H3.out; omega)) (by have := H3.out; omega)).mono ?_; rintro e w1 ⟨v1, l1, rfl, hq1, hq2, hq3, hb1⟩; have Q3 := hid hq3; clear hq3; have T1 := hid (HT.out.drew.below hb1)) | (go_at_call 38; refine (made_any false _ _ _ hq1 hq2.limbs).mono ?_; rintro e w2 ⟨v2, rfl, hn2, hb2⟩; have T2 := hid (T1.out.below hb2); have N2 := hid hn2; obtain ⟨s2, d2, rfl, hq4, -⟩ := hn2; obtain ⟨A2, k2, rfl, -⟩ := hq4; have r0 := T2.out.r0; have r1 := T2.out.r1; have z0 := T2.out.z 0; have z1 := T2.out.z 1))
        have HZ := hid (show numOf false (val l1) = x + y by rw [numOf_false, Q3.out, HVA.out, HVB.out]; have := H1.out; have := H2.out; have := H3.out; rw [HVA.out, HVB.out] at this; omega)
        go_wp2
        have D := T2.out.done _ N2.out
        refine bodyPost_ret (v := .agg #[.bool (decide (numOf false (val l1) < 0)), .slice A2 d2.length k2]) (by simp [results, Tryd.results15, go_sem, r0, r1]) rfl ⟨_, rfl, by rw [← HZ.out]; exact D.1, D.2⟩
  · by_cases h2 : y < 0
    · have e1 : decide (x < 0) = false := by simpa using h1
      have e2 : decide (y < 0) = true := by simpa using h2
      rw [e1, e2]
      have H1 := hid h1
      have H2 := hid h2
      clear e1 e2 h1 h2
      go_enter Tryd.func15, Tryd.ntmps15
      go_wp2_with fail
      refine calls_world (Three w false true s t) (Three.mk w false true s t) ?_
      intro W T
      have HT := hid T
      obtain ⟨c0, c1, d0, d1⟩ := T.all
      clear T
      refine (above_any s t a b _ (HT.out.row HR.out) (HT.out.row HR'.out) HC.out.limbs HC'.out.limbs (by have := LA.out; omega) (by have := LB.out; omega)).mono ?_
      rintro e w' ⟨rfl, rfl⟩
      by_cases h3 : val b ≤ val a
      · have hge := cmpOf_ge h3
        have H3 := hid h3
        clear h3
        generalize cmpOf (val a) (val b) = c at *
        go_wp2_with fail
        go_region_held3 (fun w' => w'.cell? ⟨w.heap.size, 0, none⟩ = some (.bool false) ∧ w'.cell? ⟨w.heap.size, 1, none⟩ = some s ∧ w'.cell? ⟨w.heap.size + 1, 0, none⟩ = some (.bool true) ∧ w'.cell? ⟨w.heap.size + 1, 1, none⟩ = some t)
          (first | exact T2.out.all | exact T1.out.all | exact HT.out.all | exact HT.out.drew.all | exact T2.out.after _ _)
          (first | (go_at_call 41; refine (minus_any s t a b _ (HT.out.drew.row HR.out) (HT.out.drew.row HR'.out) HC.out.limbs HC'.out.limbs (by have := LA.out; omega) (Canon.length_mono HC'.out HC.out.limbs H3.out) H3.out).mono ?_; rintro e w1 ⟨v1, l1, rfl, hq1, hq2, hq3, hb1⟩; have Q3 := hid hq3; clear hq3; have T1 := hid (HT.out.drew.below hb1)) | (go_at_call 38; refine (made_any false _ _ _ hq1 hq2.limbs).mono ?_; rintro e w2 ⟨v2, rfl, hn2, hb2⟩; have T2 := hid (T1.out.below hb2); have N2 := hid hn2; obtain ⟨s2, d2, rfl, hq4, -⟩ := hn2; obtain ⟨A2, k2, rfl, -⟩ := hq4; have r0 := T2.out.r0; have r1 := T2.out.r1; have z0 := T2.out.z 0; have z1 := T2.out.z 1))
        have HZ := hid (show numOf false (val l1) = x + y by rw [numOf_false, Q3.out, HVA.out, HVB.out]; have := H1.out; have := H2.out; have := H3.out; rw [HVA.out, HVB.out] at this; omega)
        go_wp2
        have D := T2.out.done _ N2.out
        refine bodyPost_ret (v := .agg #[.bool (decide (numOf false (val l1) < 0)), .slice A2 d2.length k2]) (by simp [results, Tryd.results15, go_sem, r0, r1]) rfl ⟨_, rfl, by rw [← HZ.out]; exact D.1, D.2⟩
      · have hge := cmpOf_not (Int.not_le.1 h3)
        have H3 := hid h3
        clear h3
        generalize cmpOf (val a) (val b) = c at *
        go_wp2_with fail
        go_region_held3 (fun w' => w'.cell? ⟨w.heap.size, 0, none⟩ = some (.bool false) ∧ w'.cell? ⟨w.heap.size, 1, none⟩ = some s ∧ w'.cell? ⟨w.heap.size + 1, 0, none⟩ = some (.bool true) ∧ w'.cell? ⟨w.heap.size + 1, 1, none⟩ = some t)
          (first | exact T2.out.all | exact T1.out.all | exact HT.out.all | exact HT.out.drew.all | exact T2.out.after _ _)
          (first | (go_at_call 41; refine (minus_any t s b a _ (HT.out.drew.row HR'.out) (HT.out.drew.row HR.out) HC'.out.limbs HC.out.limbs (by have := LB.out; omega) (Canon.length_mono HC.out HC'.out.limbs (by have := H3.out; omega)) (by have := H3.out; omega)).mono ?_; rintro e w1 ⟨v1, l1, rfl, hq1, hq2, hq3, hb1⟩; have Q3 := hid hq3; clear hq3; have T1 := hid (HT.out.drew.below hb1)) | (go_at_call 38; refine (made_any true _ _ _ hq1 hq2.limbs).mono ?_; rintro e w2 ⟨v2, rfl, hn2, hb2⟩; have T2 := hid (T1.out.below hb2); have N2 := hid hn2; obtain ⟨s2, d2, rfl, hq4, -⟩ := hn2; obtain ⟨A2, k2, rfl, -⟩ := hq4; have r0 := T2.out.r0; have r1 := T2.out.r1; have z0 := T2.out.z 0; have z1 := T2.out.z 1))
        have HZ := hid (show numOf true (val l1) = x + y by rw [numOf_true, Q3.out, HVA.out, HVB.out]; have := H1.out; have := H2.out; have := H3.out; rw [HVA.out, HVB.out] at this; omega)
        go_wp2
        have D := T2.out.done _ N2.out
        refine bodyPost_ret (v := .agg #[.bool (decide (numOf true (val l1) < 0)), .slice A2 d2.length k2]) (by simp [results, Tryd.results15, go_sem, r0, r1]) rfl ⟨_, rfl, by rw [← HZ.out]; exact D.1, D.2⟩
    · have e1 : decide (x < 0) = false := by simpa using h1
      have e2 : decide (y < 0) = false := by simpa using h2
      rw [e1, e2]
      have H1 := hid h1
      have H2 := hid h2
      clear e1 e2 h1 h2
      go_enter Tryd.func15, Tryd.ntmps15
      go_wp2_with fail
      refine wp_world (Three w false false s t) (Three.mk w false false s t) ?_
      intro W T
      have HT := hid T
      obtain ⟨c0, c1, d0, d1⟩ := T.all
      clear T
      go_region_held3 (fun w' => w'.cell? ⟨w.heap.size, 0, none⟩ = some (.bool false) ∧ w'.cell? ⟨w.heap.size, 1, none⟩ = some s ∧ w'.cell? ⟨w.heap.size + 1, 0, none⟩ = some (.bool false) ∧ w'.cell? ⟨w.heap.size + 1, 1, none⟩ = some t)
        (first | exact T2.out.all | exact T1.out.all | exact HT.out.all | exact HT.out.drew.all | exact T2.out.after _ _)
        (first | (go_at_call 39; refine (plus_any s t a b _ (HT.out.drew.row HR.out) (HT.out.drew.row HR'.out) HC.out.limbs HC'.out.limbs (by have := LA.out; omega) (by have := LB.out; omega)).mono ?_; rintro e w1 ⟨v1, l1, rfl, hq1, hq2, hq3, hb1⟩; have Q3 := hid hq3; clear hq3; have T1 := hid (HT.out.drew.below hb1)) | (go_at_call 38; refine (made_any false _ _ _ hq1 hq2.limbs).mono ?_; rintro e w2 ⟨v2, rfl, hn2, hb2⟩; have T2 := hid (T1.out.below hb2); have N2 := hid hn2; obtain ⟨s2, d2, rfl, hq4, -⟩ := hn2; obtain ⟨A2, k2, rfl, -⟩ := hq4; have r0 := T2.out.r0; have r1 := T2.out.r1; have z0 := T2.out.z 0; have z1 := T2.out.z 1))
      have HZ := hid (show numOf false (val l1) = x + y by rw [numOf_false, Q3.out, HVA.out, HVB.out]; have := H1.out; have := H2.out; omega)
      go_wp2
      have D := T2.out.done _ N2.out
      refine bodyPost_ret (v := .agg #[.bool (decide (numOf false (val l1) < 0)), .slice A2 d2.length k2]) (by simp [results, Tryd.results15, go_sem, r0, r1]) rfl ⟨_, rfl, by rw [← HZ.out]; exact D.1, D.2⟩
#print axioms add_any
end Go.Proofs.YtjhekggeofalfaaDoor
