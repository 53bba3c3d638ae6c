/- ClearingErrors, lifted to the row's form. -/
import Derived.Test.YtdaiaafehfbdfaaGreatDoorA9
set_option maxRecDepth 4000
set_option linter.unusedVariables false
set_option linter.unusedSimpArgs false
set_option linter.unnecessarySimpa false
set_option linter.unusedSectionVars false
/-! ClearingErrors, lifted to the row's form. -/
namespace Go.Proofs.YtdaiaafehfbdfaaGreatDoor.errs
open Go Go.ChangeShapes Go.WideShapes Go.ChangeAt Go.RowKit Go.Proofs.Vm

theorem contract (H : Type) (enc : TypeId × Value → H) (W : World) (base : Nat) (args : Array Value) (ds gs : List (DataW H)) (before : List MemPlace)
    (hval : ∀ (j : Nat) t v, Tryz.f5.params[j]? = some t → args[j]? = some v → Value.okWide Tryz.prog W .any base t v)
    (hW : DataW.Whole enc Tryz.prog Tryz.f5.params.toList Rows.clearingErrorsSpec.vars false W args.toList ds gs before) :
    Calls Tryz.prog 5 args W fun e W' => ∃ v, e = .returned v ∧ Rows.clearingErrorsSpec.post enc Tryz.prog Tryz.f5 false true false false W args v W' := by
  have hpar : Tryz.f5.params = #[ty_api_Group] := by kernel_rfl
  have hW' := hW
  obtain ⟨p, q, hA, hV, rfl, _, _⟩ := hW
  rw [hpar] at hA hval
  obtain ⟨v, d, rfl, rfl, hd⟩ := trodAll_one hA
  obtain ⟨g, hg⟩ := seen_Group (hval 0 _ v rfl rfl) hd
  have hs : Seen W [.agg g.c] #[v] := ⟨rfl, fun j h h' => by
    have : j = 0 := by simpa using h
    subst this; exact hg⟩
  refine (law_calls (f := fn_law19_ClearingErrors) hs (fun K => c_ClearingErrors g K)).mono fun e W' ⟨he, hb⟩ => ?_
  subst he
  refine ⟨_, rfl, law_post facts.laidOut (fun t ht => ?_) (tb := ty_bool) (by kernel_rfl) u_bool rfl rfl rfl rfl hW' hb⟩
  rw [hpar] at ht
  have : t = ty_api_Group := by simpa using ht
  subst this
  exact ⟨by kernel_rfl, of_decide_eq_true (by kernel_rfl)⟩

set_option maxRecDepth 100000 in
theorem lifted (os : Os) (started : os.Started) (H : Type) (enc : TypeId × Value → H) (F : Stop.Interp) :
    ReturnsInHanded {} Tryz.checked os 5 .any ((OpenSpec.ofChange Rows.clearingErrorsSpec).preRow enc Tryz.prog Tryz.f5 Rows.clearingErrorsRow.domain false Rows.clearingErrorsRow.laid) (((OpenSpec.ofChange Rows.clearingErrorsSpec).at F).post enc Tryz.prog Tryz.f5 false true false false) := by
  obtain ⟨places, hx⟩ := reads os enc
  refine returnsInHanded_of_row (C := Tryz.checked) (s := OpenSpec.ofChange Rows.clearingErrorsSpec) facts.own started (by kernel_rfl) Tryz.func5
    (witness_row_at (enc := enc) (C := Tryz.checked) false (laidWorld os) #[arg0] rfl (w1 os) (by kernel_rfl) (by kernel_rfl)
      (OpenSpec.preRow_of_cond 8 hx (by kernel_rfl) (fun k hk => by cases hk) (by kernel_rfl) (laid_met os))) ?_
  intro W base args ds gs before hval hW _ _ _ _ _ _
  exact contract H enc W base args ds gs before hval hW
end Go.Proofs.YtdaiaafehfbdfaaGreatDoor.errs
