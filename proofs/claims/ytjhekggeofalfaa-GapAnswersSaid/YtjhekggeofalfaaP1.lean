/- noonmarklaw03.GapAnswers returns true for every input, and each argument reads behind the call as it read before. Conditions: none. -/
import Derived.Test.YtjhekggeofalfaaFrame
import Derived.Test.YtjhekggeofalfaaAns2
namespace Go.Proofs.Ytjhekggeofalfaa
open Go.ChangeShapes Go.WideShapes Go.ChangeAt Go.RowKit Go.Joins

theorem gapAnswers_any (lo hi a b x y : Int) (w : World) (h1 : Fits lo) (h2 : Fits hi) (h3 : Fits a) (h4 : Fits b) (h5 : Fits x) (h6 : Fits y) :
    Calls Try.prog 3 #[gapV lo hi, gapV a b, .int .i64 x, .int .i64 y] w fun e w' => e = .returned (.bool true) ∧ Below w.heap.size w w' := by
  by_cases h : lo ≤ hi
  · exact ans_yes lo hi a b x y w h1 h2 h3 h4 h5 h6 h
  · exact ans_no lo hi a b x y w h1 h2 h3 h4 h5 h6 h

set_option maxRecDepth 100000 in
theorem gapAnswers_lifted (os : Os) (started : os.Started) (H : Type) (enc : TypeId × Value → H) :
    ReturnsInHanded {} Try.checked os 3 .any (Rows.gapAnswersSpec.pre6 enc Try.prog Try.f3 Rows.gapAnswersRow.domain false) (Rows.gapAnswersSpec.post enc Try.prog Try.f3 false true false false) := by
  refine returnsInHanded_of_change (C := Try.checked) own started (by kernel_rfl) Try.func3
    (ChangeSpec.witness6 (enc := enc) (C := Try.checked) false ⟨#[], #[.agg #[.int .i64 0, .int .i64 0], .agg #[.int .i64 0, .int .i64 0], .int .i64 0, .int .i64 0], []⟩ 8 (by kernel_rfl) (by kernel_rfl) (by kernel_rfl) (by kernel_rfl)) ?_
  intro W base args ds gs before hval0 hW hcnd _
  have hval : ∀ (j : Nat) t v, Try.f3.params[j]? = some t → args[j]? = some v → Value.okWide Try.prog W .any base t v := hval0
  have hW' := hW
  obtain ⟨p, q, hA0, hV, rfl, hfz, hnd⟩ := hW
  have hA : DataW.TrodAll enc Try.prog W 0 (fun _ => true) true Try.f3.params.toList args.toList ds p := hA0
  rw [Try.params3] at hA hval
  obtain ⟨v0, vs0, d0, ds0, p0, q0, hargs, rfl, rfl, h0, r0⟩ := trodAll_cons hA
  obtain ⟨v1, vs1, d1, ds1, p1, q1, rfl, rfl, rfl, h1, r1⟩ := trodAll_cons r0
  obtain ⟨v2, vs2, d2, ds2, p2, q2, rfl, rfl, rfl, h2, r2⟩ := trodAll_cons r1
  obtain ⟨v3, vs3, d3, ds3, p3, q3, rfl, rfl, rfl, h3, r3⟩ := trodAll_cons r2
  obtain ⟨rfl, rfl, rfl⟩ := trodAll_nil r3
  obtain rfl : args = #[v0, v1, v2, v3] := by cases args; simp_all
  obtain ⟨rfl, rfl⟩ := trodVars_none hV
  obtain ⟨lo, hi, rfl, rfl, rfl, f1, f2⟩ := open_gap (hval 0 23 v0 rfl rfl) h0
  obtain ⟨a, b, rfl, rfl, rfl, f3, f4⟩ := open_gap (hval 1 23 v1 rfl rfl) h1
  obtain ⟨x, rfl, rfl, rfl, w2⟩ := open_int Try.underlying2 (hval 2 2 v2 rfl rfl) h2
  obtain ⟨y, rfl, rfl, rfl, w3⟩ := open_int Try.underlying2 (hval 3 2 v3 rfl rfl) h3
  clear hA0 hval0
  refine (gapAnswers_any lo hi a b x y W f1 f2 f3 f4 (fits_wf.1 w2) (fits_wf.1 w3)).mono fun e W' ⟨he, bel⟩ => ?_
  subst he
  exact ⟨_, rfl, _, _, _, [], _, [], hW', trodAll_mk1 (shut_bool Try.underlying4 _), (trodAll_cons_mk (shut_gap f1 f2) (trodAll_cons_mk (shut_gap f3 f4) (trodAll_cons_mk (shut_int Try.underlying2 w2) (trodAll_cons_mk (shut_int Try.underlying2 w3) trodAll_mk0)))), rfl, bel.frame _, fun h => by cases h⟩

/-- THE STATEMENT. -/
theorem gapAnswers_proved : Rows.GapAnswersSaid :=
  OpenClaim.holds_of_wide 3 Try.f3 rfl rfl rfl rfl rfl rfl rfl ⟨rfl, rfl, rfl, rfl, rfl⟩ rfl rfl rfl rfl rfl (by kernel_rfl) Try.func3 (by kernel_rfl)
    (of_decide_eq_true (by kernel_rfl)) (by unfold Func.isWrapper; first | (rw [if_pos (by decide +kernel)]; kernel_rfl) | (rw [if_neg (by decide +kernel)]; exact ⟨rfl, rfl⟩))
    (fun os started H enc _ => gapAnswers_lifted os started H enc)
#print axioms gapAnswers_proved
end Go.Proofs.Ytjhekggeofalfaa
