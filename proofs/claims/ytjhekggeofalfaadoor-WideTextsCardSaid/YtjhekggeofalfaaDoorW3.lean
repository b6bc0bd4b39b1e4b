/- noonmarklaw02.WideTexts returns true for every input, and each argument reads behind the call as it read before. Conditions: none beside the listed tables, which the card ties to the program's text. -/
import Derived.Test.YtjhekggeofalfaaDoorTextsW
import Derived.Test.YtjhekggeofalfaaDoorFrameW
import Derived.ChangeMaps5
namespace Go.Proofs.YtjhekggeofalfaaDoor
open Go.ChangeShapes Go.WideShapes Go.ChangeAt Go.RowKit Go.Joins

theorem wideTexts_met (os : Os) : laidMet Tryd.prog Rows.wideTextsRow.laid ((laidWorld os).forCall (fun _ _ => 0) ⟨#[], #[Value.agg #[.int .i64 0, .int .u64 0], .string ⟨#[]⟩], []⟩).memory :=
  laidMet_of_run' 24 (by kernel_rfl) (by kernel_rfl)
theorem wideTexts_reads (os : Os) {H : Type} (enc : TypeId × Value → H) : ∃ places, DataW.whole enc Tryd.prog ((laidWorld os).forCall (fun _ _ => 0) ⟨#[], #[Value.agg #[.int .i64 0, .int .u64 0], .string ⟨#[]⟩], []⟩).memory Tryd.f5.params.toList Rows.wideTextsSpec.vars false #[Value.agg #[.int .i64 0, .int .u64 0], .string ⟨#[]⟩].toList 24 = some ([.agg [.lit (.int .i64 0), .lit (.int .u64 0)], .lit (.string [])], [], places) :=
  ⟨[], by kernel_rfl⟩
set_option maxRecDepth 100000 in
theorem wideTexts_lifted (os : Os) (started : os.Started) (H : Type) (enc : TypeId × Value → H) (F : Stop.Interp) :
    ReturnsInHanded {} Tryd.checked os 5 .any ((OpenSpec.ofChange Rows.wideTextsSpec).preRow enc Tryd.prog Tryd.f5 Rows.wideTextsRow.domain false Rows.wideTextsRow.laid) (((OpenSpec.ofChange Rows.wideTextsSpec).at F).post enc Tryd.prog Tryd.f5 false true false false) := by
  obtain ⟨places, hx⟩ := wideTexts_reads os enc
  refine returnsInHanded_of_row (C := Tryd.checked) (s := OpenSpec.ofChange Rows.wideTextsSpec) own started (by kernel_rfl) Tryd.func5
    (witness_row_at (enc := enc) (C := Tryd.checked) false (laidWorld os) #[Value.agg #[.int .i64 0, .int .u64 0], .string ⟨#[]⟩] rfl (by kernel_rfl) (by kernel_rfl) (by kernel_rfl)
      (OpenSpec.preRow_of_cond 24 hx (by kernel_rfl) (fun k hk => by cases hk) (by kernel_rfl) (wideTexts_met os))) ?_
  intro W base args ds gs before hval0 hW _ _ _ hL _ _
  have hval : ∀ (j : Nat) t v, Tryd.f5.params[j]? = some t → args[j]? = some v → Value.okWide Tryd.prog W .any base t v := hval0
  have htab : PowTab W := powTab hL
  have hW' := hW
  obtain ⟨p, q, hA0, hV, rfl, hfz, hnd⟩ := hW
  have hA : DataW.TrodAll enc Tryd.prog W 0 (fun _ => true) true Tryd.f5.params.toList args.toList ds p := hA0
  rw [Tryd.params5] at hA hval
  have hA1 := hA
  obtain ⟨v0, vs0, d0, ds0, p0, q0, hargs, rfl, rfl, h0, r0⟩ := trodAll_cons hA
  obtain ⟨v1, vs1, d1, ds1, p1, q1, rfl, rfl, rfl, h1, r1⟩ := trodAll_cons r0
  obtain ⟨rfl, rfl, rfl⟩ := trodAll_nil r1
  obtain rfl : args = #[v0, v1] := by cases args; simp_all
  obtain ⟨rfl, rfl⟩ := trodVars_none hV
  obtain ⟨a0, rfl, rfl, rfl, f0⟩ := open_wide (hval 0 24 v0 rfl rfl) h0
  obtain ⟨a1, rfl, rfl, rfl, w1⟩ := Go.ChangeMaps.open_string Tryd.underlying9 (hval 1 9 v1 rfl rfl) h1
  clear hA0 hval0
  refine (wideTexts_any a0 a1 W htab f0 w1).mono fun e W' ⟨he, bel⟩ => ?_
  subst he
  exact ⟨_, rfl, _, _, _, [], _, [], hW', trodAll_mk1 (shut_bool Tryd.underlying4 _), trodAll_below laidOut bel (by kernel_rfl) hA1, rfl, bel.frame _, fun h => by cases h⟩

theorem wideTexts_said : Rows.WideTextsSaid :=
  OpenClaim.holds_of_cond 5 Tryd.f5 rfl rfl rfl rfl rfl rfl rfl ⟨rfl, rfl, rfl, rfl, rfl⟩ rfl rfl rfl rfl rfl (by kernel_rfl) Tryd.func5 (by kernel_rfl)
    (of_decide_eq_true (by kernel_rfl)) (by unfold Func.isWrapper; first | (rw [if_pos (by decide +kernel)]; kernel_rfl) | (rw [if_neg (by decide +kernel)]; exact ⟨rfl, rfl⟩))
    (fun os started H enc _ F => by rw [OpenClaim.pre_eq_preRow]; exact wideTexts_lifted os started H enc F)
theorem wideTexts_plain (f : FuncId) (fn : Func) (hf : Tryd.pinned.checked.prog.funcNamed Rows.wideTextsRow.func = some f) (hfn : Tryd.pinned.checked.prog.funcs[f]? = some fn) :
    false = Tryd.pinned.checked.prog.looks [] ∧ ∀ (j : Nat) t, fn.params[j]? = some t → Tryd.pinned.checked.prog.wantsStandIn t = false := by
  obtain rfl : f = 5 := Option.some.inj ((show Tryd.prog.funcNamed Rows.wideTextsRow.func = some 5 by kernel_rfl).symm.trans hf) |>.symm
  obtain rfl : fn = Tryd.f5 := (Option.some.inj (Tryd.func5.symm.trans hfn)).symm
  refine ⟨by kernel_rfl, fun j t ht => ?_⟩
  rw [Tryd.params5] at ht
  have hm := Array.mem_of_getElem? ht
  simp only [List.mem_toArray, List.mem_cons, List.not_mem_nil, or_false] at hm
  rcases hm with rfl | rfl
  · exact (show Tryd.prog.wantsStandIn 24 = false by kernel_rfl)
  · exact (show Tryd.prog.wantsStandIn 9 = false by kernel_rfl)

/-- THE STATEMENT. -/
theorem wideTexts_proved : Rows.WideTextsCardSaid :=
  Claim7.holds_tied_plain_at .later [] _ _ _ _ wideTexts_said (fun _ h => by cases h) (by kernel_rfl) (fun _ h => by cases h) wideTexts_row_tie rfl ⟨rfl, rfl⟩ (by kernel_rfl) rfl wideTexts_plain (by kernel_rfl)
#print axioms wideTexts_proved
end Go.Proofs.YtjhekggeofalfaaDoor
