/- noonmarklaw02.WideBytes returns true for every input, and each argument reads behind the call as it read before. Conditions: none beside the listed tables, which the card ties to the program's text. -/
import Derived.Test.YtjhekggeofalfaaDoorBytesW
import Derived.Test.YtjhekggeofalfaaDoorOpenL
import Derived.Test.YtjhekggeofalfaaDoorFrameW
namespace Go.Proofs.YtjhekggeofalfaaDoor
open Go.ChangeShapes Go.WideShapes Go.ChangeAt Go.RowKit Go.Joins

theorem wideBytes_met (os : Os) : laidMet Tryd.prog Rows.wideBytesRow.laid ((laidWorld os).forCall (fun _ _ => 0) ⟨#[], #[Value.agg #[.int .i64 0, .int .u64 0], .agg #[.int .i64 0, .int .u64 0], .slice none 0 0], []⟩).memory :=
  laidMet_of_run' 24 (by kernel_rfl) (by kernel_rfl)
theorem wideBytes_reads (os : Os) {H : Type} (enc : TypeId × Value → H) : ∃ places, DataW.whole enc Tryd.prog ((laidWorld os).forCall (fun _ _ => 0) ⟨#[], #[Value.agg #[.int .i64 0, .int .u64 0], .agg #[.int .i64 0, .int .u64 0], .slice none 0 0], []⟩).memory Tryd.f6.params.toList Rows.wideBytesSpec.vars false #[Value.agg #[.int .i64 0, .int .u64 0], .agg #[.int .i64 0, .int .u64 0], .slice none 0 0].toList 24 = some ([.agg [.lit (.int .i64 0), .lit (.int .u64 0)], .agg [.lit (.int .i64 0), .lit (.int .u64 0)], .nil], [], places) :=
  ⟨[], by kernel_rfl⟩
set_option maxRecDepth 100000 in
theorem wideBytes_lifted (os : Os) (started : os.Started) (H : Type) (enc : TypeId × Value → H) (F : Stop.Interp) :
    ReturnsInHanded {} Tryd.checked os 6 .any ((OpenSpec.ofChange Rows.wideBytesSpec).preRow enc Tryd.prog Tryd.f6 Rows.wideBytesRow.domain false Rows.wideBytesRow.laid) (((OpenSpec.ofChange Rows.wideBytesSpec).at F).post enc Tryd.prog Tryd.f6 false true false false) := by
  obtain ⟨places, hx⟩ := wideBytes_reads os enc
  refine returnsInHanded_of_row (C := Tryd.checked) (s := OpenSpec.ofChange Rows.wideBytesSpec) own started (by kernel_rfl) Tryd.func6
    (witness_row_at (enc := enc) (C := Tryd.checked) false (laidWorld os) #[Value.agg #[.int .i64 0, .int .u64 0], .agg #[.int .i64 0, .int .u64 0], .slice none 0 0] rfl (by kernel_rfl) (by kernel_rfl) (by kernel_rfl)
      (OpenSpec.preRow_of_cond 24 hx (by kernel_rfl) (fun k hk => by cases hk) (by kernel_rfl) (wideBytes_met os))) ?_
  intro W base args ds gs before hval0 hW _ _ _ hL _ _
  have hval : ∀ (j : Nat) t v, Tryd.f6.params[j]? = some t → args[j]? = some v → Value.okWide Tryd.prog W .any base t v := hval0
  have htab : PowTab W := powTab hL
  have hW' := hW
  obtain ⟨p, q, hA0, hV, rfl, hfz, hnd⟩ := hW
  have hA : DataW.TrodAll enc Tryd.prog W 0 (fun _ => true) true Tryd.f6.params.toList args.toList ds p := hA0
  rw [Tryd.params6] at hA hval
  have hA1 := hA
  obtain ⟨v0, vs0, d0, ds0, p0, q0, hargs, rfl, rfl, h0, r0⟩ := trodAll_cons hA
  obtain ⟨v1, vs1, d1, ds1, p1, q1, rfl, rfl, rfl, h1, r1⟩ := trodAll_cons r0
  obtain ⟨v2, vs2, d2, ds2, p2, q2, rfl, rfl, rfl, h2, r2⟩ := trodAll_cons r1
  obtain ⟨rfl, rfl, rfl⟩ := trodAll_nil r2
  obtain rfl : args = #[v0, v1, v2] := by cases args; simp_all
  obtain ⟨rfl, rfl⟩ := trodVars_none hV
  obtain ⟨a0, rfl, rfl, rfl, f0⟩ := open_wide (hval 0 24 v0 rfl rfl) h0
  obtain ⟨a1, rfl, rfl, rfl, f1⟩ := open_wide (hval 1 24 v1 rfl rfl) h1
  obtain ⟨s2, l2, c2, rfl⟩ := okWide_slice Tryd.underlying59 (hval 2 59 v2 rfl rfl)
  obtain ⟨nl2, gs2, ig2, ln2, fg2⟩ := open_bytes h2
  clear hA0 hval0
  refine (wideBytesLaw_any a0 a1 _ _ _ gs2 W htab f0 f1 nl2 ig2 ln2 fg2).mono fun e W' ⟨he, bel⟩ => ?_
  subst he
  exact ⟨_, rfl, _, _, _, [], _, [], hW', trodAll_mk1 (shut_bool Tryd.underlying4 _), trodAll_below laidOut bel (by kernel_rfl) hA1, rfl, bel.frame _, fun h => by cases h⟩

theorem wideBytes_said : Rows.WideBytesSaid :=
  OpenClaim.holds_of_cond 6 Tryd.f6 rfl rfl rfl rfl rfl rfl rfl ⟨rfl, rfl, rfl, rfl, rfl⟩ rfl rfl rfl rfl rfl (by kernel_rfl) Tryd.func6 (by kernel_rfl)
    (of_decide_eq_true (by kernel_rfl)) (by unfold Func.isWrapper; first | (rw [if_pos (by decide +kernel)]; kernel_rfl) | (rw [if_neg (by decide +kernel)]; exact ⟨rfl, rfl⟩))
    (fun os started H enc _ F => by rw [OpenClaim.pre_eq_preRow]; exact wideBytes_lifted os started H enc F)
theorem wideBytes_plain (f : FuncId) (fn : Func) (hf : Tryd.pinned.checked.prog.funcNamed Rows.wideBytesRow.func = some f) (hfn : Tryd.pinned.checked.prog.funcs[f]? = some fn) :
    false = Tryd.pinned.checked.prog.looks [] ∧ ∀ (j : Nat) t, fn.params[j]? = some t → Tryd.pinned.checked.prog.wantsStandIn t = false := by
  obtain rfl : f = 6 := Option.some.inj ((show Tryd.prog.funcNamed Rows.wideBytesRow.func = some 6 by kernel_rfl).symm.trans hf) |>.symm
  obtain rfl : fn = Tryd.f6 := (Option.some.inj (Tryd.func6.symm.trans hfn)).symm
  refine ⟨by kernel_rfl, fun j t ht => ?_⟩
  rw [Tryd.params6] at ht
  have hm := Array.mem_of_getElem? ht
  simp only [List.mem_toArray, List.mem_cons, List.not_mem_nil, or_false] at hm
  rcases hm with rfl | rfl | rfl
  · exact (show Tryd.prog.wantsStandIn 24 = false by kernel_rfl)
  · exact (show Tryd.prog.wantsStandIn 24 = false by kernel_rfl)
  · exact (show Tryd.prog.wantsStandIn 59 = false by kernel_rfl)

/-- THE STATEMENT. -/
theorem wideBytes_proved : Rows.WideBytesCardSaid :=
  Claim7.holds_tied_plain_at .later [] _ _ _ _ wideBytes_said (fun _ h => by cases h) (by kernel_rfl) (fun _ h => by cases h) wideBytes_row_tie rfl ⟨rfl, rfl⟩ (by kernel_rfl) rfl wideBytes_plain (by kernel_rfl)
#print axioms wideBytes_proved
end Go.Proofs.YtjhekggeofalfaaDoor
