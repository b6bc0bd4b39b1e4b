/- The plain laws of GapBack; slices of three gaps. -/
import Derived.Test.YtjhekggeofalfaaAlive03
namespace Go.Proofs.Ytjhekggeofalfaa
open Go.RowKit

theorem IsGaps.three (w : World) (a b c d e f : Int) : IsGaps (w.alloc (.cells #[.int .i64 a, .int .i64 b, .int .i64 c, .int .i64 d, .int .i64 e, .int .i64 f] 23)) (.slice (some ⟨w.heap.size, 0, none⟩) 3 3) [(a, b), (c, d), (e, f)] := by
  refine ⟨_, 3, rfl, by simp, by simp [maxLen], .inr ⟨w.heap.size, 0, rfl, by simp, fun i hi => ?_⟩⟩
  have hb := heap_alloc_new w (.cells #[.int .i64 a, .int .i64 b, .int .i64 c, .int .i64 d, .int .i64 e, .int .i64 f] 23)
  match i, hi with
  | 0, _ => exact ⟨(cell_of_row _ _ _ _ _ _ hb).trans rfl, (cell_of_row _ _ _ _ _ _ hb).trans rfl⟩
  | 1, _ => exact ⟨(cell_of_row _ _ _ _ _ _ hb).trans rfl, (cell_of_row _ _ _ _ _ _ hb).trans rfl⟩
  | 2, _ => exact ⟨(cell_of_row _ _ _ _ _ _ hb).trans rfl, (cell_of_row _ _ _ _ _ _ hb).trans rfl⟩
theorem IsGaps.three' (w : World) (o : Obj) (a b c d e f : Int) : IsGaps ((w.alloc o).alloc (.cells #[.int .i64 a, .int .i64 b, .int .i64 c, .int .i64 d, .int .i64 e, .int .i64 f] 23)) (.slice (some ⟨w.heap.size + 1, 0, none⟩) 3 3) [(a, b), (c, d), (e, f)] := by
  have h := IsGaps.three (w.alloc o) a b c d e f
  rwa [show (w.alloc o).heap.size = w.heap.size + 1 by simp] at h

theorem shift_ways (lo hi by_ : Int) : shErr lo hi by_ = 10 ∨ shErr lo hi by_ = 12 ∨ (shErr lo hi by_ = 0 ∧ lo ≤ hi ∧ Fits (lo + by_) ∧ Fits (hi + by_)) := by
  unfold shErr
  by_cases h : lo ≤ hi
  · by_cases h' : Fits (lo + by_) ∧ Fits (hi + by_)
    · rw [if_pos h, if_pos h']; exact .inr (.inr ⟨rfl, h, h'⟩)
    · rw [if_pos h, if_neg h']; exact .inr (.inl rfl)
  · rw [if_neg h]; exact .inl rfl
theorem shift_back {lo hi by_ : Int} (h1 : Fits lo) (h2 : Fits hi) (h : lo ≤ hi) : shErr (lo + by_) (hi + by_) (-by_) = 0 ∧ shLo (lo + by_) (hi + by_) (-by_) = lo ∧ shHi (lo + by_) (hi + by_) (-by_) = hi := by
  have e : shErr (lo + by_) (hi + by_) (-by_) = 0 := by
    unfold shErr
    rw [if_pos (by omega), if_pos ⟨by rwa [show lo + by_ + -by_ = lo by omega], by rwa [show hi + by_ + -by_ = hi by omega]⟩]
  exact ⟨e, by rw [shLo, if_pos e]; omega, by rw [shHi, if_pos e]; omega⟩
theorem width_shift (lo hi by_ : Int) : widthOf (lo + by_) (hi + by_) = widthOf lo hi := by
  unfold widthOf; split <;> split <;> omega

def Right3 (a b c : G2) : Prop := a.1 ≤ a.2 ∧ b.1 ≤ b.2 ∧ c.1 ≤ c.2
theorem mt3 {a b c : G2} (h1 : Fits a.1) (h2 : Fits a.2) (h3 : Fits b.1) (h4 : Fits b.2) (h5 : Fits c.1) (h6 : Fits c.2) :
    (mtErr [a, b, c] = 10 ∧ ¬ Right3 a b c) ∨ (mtErr [a, b, c] = 13 ∧ Right3 a b c ∧ ¬ max (max a.1 b.1) c.1 ≤ min (min a.2 b.2) c.2) ∨
    (mtErr [a, b, c] = 0 ∧ Right3 a b c ∧ max (max a.1 b.1) c.1 ≤ min (min a.2 b.2) c.2 ∧ mtLo [a, b, c] = max (max a.1 b.1) c.1 ∧ mtHi [a, b, c] = min (min a.2 b.2) c.2) := by
  obtain ⟨a1, a2⟩ := a; obtain ⟨b1, b2⟩ := b; obtain ⟨c1, c2⟩ := c
  unfold Fits at h1 h2 h3 h4 h5 h6
  simp only at h1 h2 h3 h4 h5 h6
  by_cases h : Right3 (a1, a2) (b1, b2) (c1, c2)
  · have hr : rightG [(a1, a2), (b1, b2), (c1, c2)] = true := by simpa [rightG, Right3] using h
    have hl : ([(a1, a2), (b1, b2), (c1, c2)].foldl meet2 meetS).1 = max (max a1 b1) c1 := by simp [meet2, meetS]; omega
    have hh : ([(a1, a2), (b1, b2), (c1, c2)].foldl meet2 meetS).2 = min (min a2 b2) c2 := by simp [meet2, meetS]; omega
    by_cases hle : max (max a1 b1) c1 ≤ min (min a2 b2) c2
    · have e : mtErr [(a1, a2), (b1, b2), (c1, c2)] = 0 := by
        rw [← mtErr_eq, foldErr, if_pos hr, hl, hh, if_pos hle]
      exact .inr (.inr ⟨e, h, hle, by rw [← mtLo_eq, foldLo, mtErr_eq, if_pos e, hl], by rw [← mtHi_eq, foldHi, mtErr_eq, if_pos e, hh]⟩)
    · exact .inr (.inl ⟨by rw [← mtErr_eq, foldErr, if_pos hr, hl, hh, if_neg hle], h, hle⟩)
  · have hr : rightG [(a1, a2), (b1, b2), (c1, c2)] = true → False := fun q => h (by simpa [rightG, Right3] using q)
    exact .inl ⟨by rw [← mtErr_eq, foldErr, if_neg (fun q => hr q)], h⟩
theorem mt2 {a b : G2} (h1 : Fits a.1) (h2 : Fits a.2) (h3 : Fits b.1) (h4 : Fits b.2) (ha : a.1 ≤ a.2) (hb : b.1 ≤ b.2) (hle : max a.1 b.1 ≤ min a.2 b.2) :
    mtErr [a, b] = 0 ∧ mtLo [a, b] = max a.1 b.1 ∧ mtHi [a, b] = min a.2 b.2 := by
  obtain ⟨a1, a2⟩ := a; obtain ⟨b1, b2⟩ := b
  unfold Fits at h1 h2 h3 h4
  simp only at h1 h2 h3 h4 ha hb hle
  have hr : rightG [(a1, a2), (b1, b2)] = true := by simp [rightG, ha, hb]
  have hl : ([(a1, a2), (b1, b2)].foldl meet2 meetS).1 = max a1 b1 := by simp [meet2, meetS]; omega
  have hh : ([(a1, a2), (b1, b2)].foldl meet2 meetS).2 = min a2 b2 := by simp [meet2, meetS]; omega
  have e : mtErr [(a1, a2), (b1, b2)] = 0 := by rw [← mtErr_eq, foldErr, if_pos hr, hl, hh, if_pos hle]
  exact ⟨e, by rw [← mtLo_eq, foldLo, mtErr_eq, if_pos e, hl], by rw [← mtHi_eq, foldHi, mtErr_eq, if_pos e, hh]⟩
theorem mtLo_no {gs : List G2} (h : mtErr gs ≠ 0) : mtLo gs = 0 := by rw [← mtLo_eq, foldLo, mtErr_eq, if_neg h]
theorem mtHi_no {gs : List G2} (h : mtErr gs ≠ 0) : mtHi gs = 0 := by rw [← mtHi_eq, foldHi, mtErr_eq, if_neg h]
theorem huLo_no {gs : List G2} (h : huErr gs ≠ 0) : huLo gs = 0 := by rw [← huLo_eq, foldLo, huErr_eq, if_neg h]
theorem huHi_no {gs : List G2} (h : huErr gs ≠ 0) : huHi gs = 0 := by rw [← huHi_eq, foldHi, huErr_eq, if_neg h]
theorem hu3 {a b c : G2} (h1 : Fits a.1) (h2 : Fits a.2) (h3 : Fits b.1) (h4 : Fits b.2) (h5 : Fits c.1) (h6 : Fits c.2) :
    (huErr [a, b, c] = 10 ∧ ¬ Right3 a b c) ∨
    (huErr [a, b, c] = 0 ∧ Right3 a b c ∧ huLo [a, b, c] = min (min a.1 b.1) c.1 ∧ huHi [a, b, c] = max (max a.2 b.2) c.2) := by
  obtain ⟨a1, a2⟩ := a; obtain ⟨b1, b2⟩ := b; obtain ⟨c1, c2⟩ := c
  unfold Fits at h1 h2 h3 h4 h5 h6
  simp only at h1 h2 h3 h4 h5 h6
  by_cases h : Right3 (a1, a2) (b1, b2) (c1, c2)
  · have hr : rightG [(a1, a2), (b1, b2), (c1, c2)] = true := by simpa [rightG, Right3] using h
    have hl : ([(a1, a2), (b1, b2), (c1, c2)].foldl hull2 hullS).1 = min (min a1 b1) c1 := by simp [hull2, hullS]; omega
    have hh : ([(a1, a2), (b1, b2), (c1, c2)].foldl hull2 hullS).2 = max (max a2 b2) c2 := by simp [hull2, hullS]; omega
    have hle : min (min a1 b1) c1 ≤ max (max a2 b2) c2 := by
      obtain ⟨q1, q2, q3⟩ := h; simp only at q1 q2 q3; omega
    have e : huErr [(a1, a2), (b1, b2), (c1, c2)] = 0 := by rw [← huErr_eq, foldErr, if_pos hr, hl, hh, if_pos hle]
    exact .inr ⟨e, h, by rw [← huLo_eq, foldLo, huErr_eq, if_pos e, hl], by rw [← huHi_eq, foldHi, huErr_eq, if_pos e, hh]⟩
  · have hr : rightG [(a1, a2), (b1, b2), (c1, c2)] = true → False := fun q => h (by simpa [rightG, Right3] using q)
    exact .inl ⟨by rw [← huErr_eq, foldErr, if_neg (fun q => hr q)], h⟩
theorem mt_turn {a b c : G2} (h1 : Fits a.1) (h2 : Fits a.2) (h3 : Fits b.1) (h4 : Fits b.2) (h5 : Fits c.1) (h6 : Fits c.2) :
    mtErr [c, b, a] = mtErr [a, b, c] ∧ mtLo [c, b, a] = mtLo [a, b, c] ∧ mtHi [c, b, a] = mtHi [a, b, c] := by
  rcases mt3 h1 h2 h3 h4 h5 h6 with ⟨e, r⟩ | ⟨e, r, n⟩ | ⟨e, r, n, l, u⟩ <;> rcases mt3 h5 h6 h3 h4 h1 h2 with ⟨e', r'⟩ | ⟨e', r', n'⟩ | ⟨e', r', n', l', u'⟩ <;> unfold Right3 at r r' <;>
    first | (exfalso; omega) | (refine ⟨e'.trans e.symm, ?_, ?_⟩ <;> first | (rw [l, l']; omega) | (rw [u, u']; omega) | rw [mtLo_no (by omega), mtLo_no (by omega)] | rw [mtHi_no (by omega), mtHi_no (by omega)])
theorem hu_turn {a b c : G2} (h1 : Fits a.1) (h2 : Fits a.2) (h3 : Fits b.1) (h4 : Fits b.2) (h5 : Fits c.1) (h6 : Fits c.2) :
    huErr [b, c, a] = huErr [a, b, c] ∧ huLo [b, c, a] = huLo [a, b, c] ∧ huHi [b, c, a] = huHi [a, b, c] := by
  rcases hu3 h1 h2 h3 h4 h5 h6 with ⟨e, r⟩ | ⟨e, r, l, u⟩ <;> rcases hu3 h3 h4 h5 h6 h1 h2 with ⟨e', r'⟩ | ⟨e', r', l', u'⟩ <;> unfold Right3 at r r' <;>
    first | (exfalso; omega) | (refine ⟨e'.trans e.symm, ?_, ?_⟩ <;> first | (rw [l, l']; omega) | (rw [u, u']; omega) | rw [huLo_no (by omega), huLo_no (by omega)] | rw [huHi_no (by omega), huHi_no (by omega)])
/-- Where the three meet: the two first meet, and then with the third, in what the three have; which lies in their hull. -/
theorem mt_steps {a b c : G2} (h1 : Fits a.1) (h2 : Fits a.2) (h3 : Fits b.1) (h4 : Fits b.2) (h5 : Fits c.1) (h6 : Fits c.2) (e : mtErr [a, b, c] = 0) :
    mtErr [a, b] = 0 ∧ mtErr [(mtLo [a, b], mtHi [a, b]), c] = 0 ∧ mtLo [(mtLo [a, b], mtHi [a, b]), c] = mtLo [a, b, c] ∧ mtHi [(mtLo [a, b], mtHi [a, b]), c] = mtHi [a, b, c] ∧
      withinOf (mtLo [a, b, c]) (mtHi [a, b, c]) (huLo [a, b, c]) (huHi [a, b, c]) = true := by
  rcases mt3 h1 h2 h3 h4 h5 h6 with ⟨e', r⟩ | ⟨e', r, n⟩ | ⟨-, r, n, l, u⟩
  · omega
  · omega
  · obtain ⟨q1, q2, q3⟩ := r
    obtain ⟨e1, l1, u1⟩ := mt2 h1 h2 h3 h4 q1 q2 (by omega)
    have F1 : Fits (max a.1 b.1) := by unfold Fits at *; omega
    have F2 : Fits (min a.2 b.2) := by unfold Fits at *; omega
    obtain ⟨e2, l2, u2⟩ := mt2 (a := (max a.1 b.1, min a.2 b.2)) (b := c) F1 F2 h5 h6 (by simp only; omega) q3 n
    rcases hu3 h1 h2 h3 h4 h5 h6 with ⟨e'', r''⟩ | ⟨-, -, l3, u3⟩
    · exact absurd ⟨q1, q2, q3⟩ r''
    · rw [l1, u1]
      refine ⟨e1, e2, by rw [l2, l], by rw [u2, u], ?_⟩
      rw [l, u, l3, u3, withinOf, decide_eq_true n, decide_eq_true (by omega), decide_eq_true (by omega)]; rfl
end Go.Proofs.Ytjhekggeofalfaa
