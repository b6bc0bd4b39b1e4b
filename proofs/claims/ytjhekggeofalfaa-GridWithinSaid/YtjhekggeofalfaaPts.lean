/- Plain laws of what gaps have together and of their hull, for GapPoints. -/
import Derived.Test.YtjhekggeofalfaaMeet
namespace Go.Proofs.Ytjhekggeofalfaa
open Go.RowKit

def allHas (gs : List G2) (x : Int) : Bool := gs.all fun g => hasOf g.1 g.2 x
def anyHas (gs : List G2) (x : Int) : Bool := gs.any fun g => hasOf g.1 g.2 x
theorem allHas_nil (x : Int) : allHas [] x = true := rfl
theorem anyHas_nil (x : Int) : anyHas [] x = false := rfl
theorem allHas_snoc (gs : List G2) (k : Nat) (h : k < gs.length) (x : Int) : allHas (gs.take (k + 1)) x = (allHas (gs.take k) x && hasOf gs[k].1 gs[k].2 x) := by
  unfold allHas; rw [List.take_succ_eq_append_getElem h, List.all_append]; simp
theorem anyHas_snoc (gs : List G2) (k : Nat) (h : k < gs.length) (x : Int) : anyHas (gs.take (k + 1)) x = (anyHas (gs.take k) x || hasOf gs[k].1 gs[k].2 x) := by
  unfold anyHas; rw [List.take_succ_eq_append_getElem h, List.any_append]; simp
theorem hasOf_iff {lo hi x : Int} : hasOf lo hi x = true ↔ lo ≤ x ∧ x ≤ hi := by simp [hasOf]
theorem withinOf_iff {lo hi a b : Int} : withinOf lo hi a b = true ↔ lo ≤ hi ∧ a ≤ lo ∧ hi ≤ b := by simp [withinOf]

theorem meet_has (gs : List G2) (x : Int) : ∀ s : G2, hasOf (gs.foldl meet2 s).1 (gs.foldl meet2 s).2 x = (hasOf s.1 s.2 x && allHas gs x) := by
  induction gs with
  | nil => intro s; simp [allHas]
  | cons g t ih =>
    intro s
    rw [List.foldl_cons, ih]
    unfold allHas
    rw [List.all_cons, ← Bool.and_assoc]
    congr 1
    rw [Bool.eq_iff_iff, Bool.and_eq_true, hasOf_iff, hasOf_iff, hasOf_iff]
    unfold meet2
    simp only
    omega
theorem meet_mem (gs : List G2) : ∀ s : G2, (s.1 ≤ (gs.foldl meet2 s).1 ∧ (gs.foldl meet2 s).2 ≤ s.2) ∧ ∀ g ∈ gs, g.1 ≤ (gs.foldl meet2 s).1 ∧ (gs.foldl meet2 s).2 ≤ g.2 := by
  induction gs with
  | nil => intro s; exact ⟨⟨Int.le_refl _, Int.le_refl _⟩, fun g h => by cases h⟩
  | cons g t ih =>
    intro s
    obtain ⟨⟨i1, i2⟩, i3⟩ := ih (meet2 s g)
    rw [List.foldl_cons]
    have e1 : s.1 ≤ (meet2 s g).1 ∧ g.1 ≤ (meet2 s g).1 := by unfold meet2; simp only; omega
    have e2 : (meet2 s g).2 ≤ s.2 ∧ (meet2 s g).2 ≤ g.2 := by unfold meet2; simp only; omega
    refine ⟨⟨by omega, by omega⟩, fun g' h => ?_⟩
    rcases List.mem_cons.1 h with rfl | h
    · exact ⟨by omega, by omega⟩
    · exact i3 g' h
theorem hull_mem (gs : List G2) : ∀ s : G2, ((gs.foldl hull2 s).1 ≤ s.1 ∧ s.2 ≤ (gs.foldl hull2 s).2) ∧ ∀ g ∈ gs, (gs.foldl hull2 s).1 ≤ g.1 ∧ g.2 ≤ (gs.foldl hull2 s).2 := by
  induction gs with
  | nil => intro s; exact ⟨⟨Int.le_refl _, Int.le_refl _⟩, fun g h => by cases h⟩
  | cons g t ih =>
    intro s
    obtain ⟨⟨i1, i2⟩, i3⟩ := ih (hull2 s g)
    rw [List.foldl_cons]
    have e1 : (hull2 s g).1 ≤ s.1 ∧ (hull2 s g).1 ≤ g.1 := by unfold hull2; simp only; omega
    have e2 : s.2 ≤ (hull2 s g).2 ∧ g.2 ≤ (hull2 s g).2 := by unfold hull2; simp only; omega
    refine ⟨⟨by omega, by omega⟩, fun g' h => ?_⟩
    rcases List.mem_cons.1 h with rfl | h
    · exact ⟨by omega, by omega⟩
    · exact i3 g' h
theorem rightG_mem {gs : List G2} (hr : rightG gs = true) {g : G2} (h : g ∈ gs) : g.1 ≤ g.2 := by
  have := List.all_eq_true.1 hr g h; simpa using this
/-- A number is in what all have together just if each has it. -/
theorem mt_points {gs : List G2} (hr : rightG gs = true) {x : Int} (hx : Fits x) :
    (mtErr gs = 0 ∧ hasOf (mtLo gs) (mtHi gs) x = allHas gs x ∧ ∀ g ∈ gs, withinOf (mtLo gs) (mtHi gs) g.1 g.2 = true) ∨ (mtErr gs = 13 ∧ allHas gs x = false) := by
  have h := meet_has gs x meetS
  rw [show hasOf meetS.1 meetS.2 x = true from hasOf_iff.2 hx, Bool.true_and] at h
  by_cases hle : (gs.foldl meet2 meetS).1 ≤ (gs.foldl meet2 meetS).2
  · have e : mtErr gs = 0 := by rw [← mtErr_eq, foldErr, if_pos hr, if_pos hle]
    have l : mtLo gs = (gs.foldl meet2 meetS).1 := by rw [← mtLo_eq, foldLo, mtErr_eq, if_pos e]
    have u : mtHi gs = (gs.foldl meet2 meetS).2 := by rw [← mtHi_eq, foldHi, mtErr_eq, if_pos e]
    rw [l, u]
    exact .inl ⟨e, h, fun g hg => withinOf_iff.2 ⟨hle, (meet_mem gs meetS).2 g hg⟩⟩
  · refine .inr ⟨by rw [← mtErr_eq, foldErr, if_pos hr, if_neg hle], ?_⟩
    rw [← h]
    rcases hb : hasOf (gs.foldl meet2 meetS).1 (gs.foldl meet2 meetS).2 x with _ | _
    · rfl
    · have := hasOf_iff.1 hb; omega
/-- What one has is in the hull; each gap lies in the hull. -/
theorem hu_points {gs : List G2} (hr : rightG gs = true) {g : G2} (hg : g ∈ gs) :
    huErr gs = 0 ∧ withinOf g.1 g.2 (huLo gs) (huHi gs) = true ∧ ∀ x, hasOf g.1 g.2 x = true → hasOf (huLo gs) (huHi gs) x = true := by
  obtain ⟨m1, m2⟩ := (hull_mem gs hullS).2 g hg
  have hgg := rightG_mem hr hg
  have hle : (gs.foldl hull2 hullS).1 ≤ (gs.foldl hull2 hullS).2 := by omega
  have e : huErr gs = 0 := by rw [← huErr_eq, foldErr, if_pos hr, if_pos hle]
  have l : huLo gs = (gs.foldl hull2 hullS).1 := by rw [← huLo_eq, foldLo, huErr_eq, if_pos e]
  have u : huHi gs = (gs.foldl hull2 hullS).2 := by rw [← huHi_eq, foldHi, huErr_eq, if_pos e]
  rw [l, u]
  refine ⟨e, withinOf_iff.2 ⟨hgg, m1, m2⟩, fun x hx => ?_⟩
  rw [hasOf_iff] at *
  omega
theorem hu_any {gs : List G2} (hr : rightG gs = true) {x : Int} (h : anyHas gs x = true) : huErr gs = 0 ∧ hasOf (huLo gs) (huHi gs) x = true := by
  obtain ⟨g, hg, hx⟩ := List.any_eq_true.1 h
  obtain ⟨e, -, k⟩ := hu_points hr hg
  exact ⟨e, k x hx⟩
/-- The middle and the ends of a gap are in it. -/
theorem has_mid {lo hi : Int} (h : lo ≤ hi) : hasOf lo hi (midOf lo hi) = true := by rw [hasOf_iff, midOf, if_pos h]; omega
theorem has_lo {lo hi : Int} (h : lo ≤ hi) : hasOf lo hi lo = true := hasOf_iff.2 ⟨Int.le_refl _, h⟩
theorem has_hi {lo hi : Int} (h : lo ≤ hi) : hasOf lo hi hi = true := hasOf_iff.2 ⟨h, Int.le_refl _⟩
/-- Grown on both ends by the same. -/
theorem grow_points {lo hi b : Int} (h : lo ≤ hi) (hb : 0 ≤ b) :
    (grErr lo hi b b = 0 ∧ Fits (lo - b) ∧ Fits (hi + b) ∧ grLo lo hi b b = lo - b ∧ grHi lo hi b b = hi + b ∧ withinOf lo hi (lo - b) (hi + b) = true ∧ widthOf (lo - b) (hi + b) = hi - lo + 2 * b ∧ widthOf lo hi = hi - lo) ∨ (grErr lo hi b b = 0) = False := by
  by_cases e : grErr lo hi b b = 0
  · refine .inl ?_
    have e' := e
    unfold grErr at e'
    rw [if_pos h] at e'
    split at e'
    · rename_i f
      exact ⟨e, f.1, f.2, by rw [grLo, if_pos e], by rw [grHi, if_pos e], withinOf_iff.2 ⟨h, by omega, by omega⟩, by rw [widthOf, if_pos (by omega)]; omega, by rw [widthOf, if_pos h]⟩
    · omega
  · exact .inr (by simp [e])
end Go.Proofs.Ytjhekggeofalfaa
