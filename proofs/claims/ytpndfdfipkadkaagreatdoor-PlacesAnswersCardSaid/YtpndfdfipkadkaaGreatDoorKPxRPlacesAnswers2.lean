/- The law holds: part 63. Conditions: none. -/
import Derived.Test.YtpndfdfipkadkaaGreatDoorKPxRPlacesAnswers
import Derived.Test.YtpndfdfipkadkaaGreatDoorKPxRPlacesAnswersF
import Derived.Test.YtpndfdfipkadkaaGreatDoorKPxRPlacesAnswersG
import Derived.Test.YtpndfdfipkadkaaGreatDoorKPxRPlacesAnswersH
set_option linter.all false
set_option maxRecDepth 100000
namespace Go.Proofs.YtpndfdfipkadkaaGreatDoor
open Go Go.Wx Go.Ax Go.ChangeShapes Go.WideShapes Go.ChangeAt Go.RowKit
open Go.ChangeMaps (open_string shut_string)
theorem said_PlacesAnswers : Rows.PlacesAnswersSaid :=
  OpenClaim.holds_of_cond 12 Tryz.f12 rfl rfl rfl rfl rfl rfl rfl ⟨rfl, rfl, rfl, rfl, rfl⟩ rfl rfl rfl rfl rfl named_PlacesAnswers Tryz.func12 facts_PlacesAnswers inst_PlacesAnswers wrap_PlacesAnswers
    (fun os started H enc _ F => by rw [OpenClaim.pre_eq_preRow]; exact lifted_PlacesAnswers os started H enc F)
theorem plain_PlacesAnswers (f : FuncId) (fn : Func) (hf : Tryz.pinned.checked.prog.funcNamed "restante/restantelaw02.PlacesAnswers" = some f) (hfn : Tryz.pinned.checked.prog.funcs[f]? = some fn) :
    true = Tryz.pinned.checked.prog.looks [] ∧ ∀ (j : Nat) t, fn.params[j]? = some t → Tryz.pinned.checked.prog.wantsStandIn t = false := by
  obtain rfl : f = 12 := Option.some.inj ((show Pg.funcNamed "restante/restantelaw02.PlacesAnswers" = some 12 by kernel_rfl).symm.trans hf) |>.symm
  obtain rfl : fn = Tryz.f12 := (Option.some.inj (Tryz.func12.symm.trans hfn)).symm
  refine ⟨by kernel_rfl, fun j t ht => ?_⟩
  rw [Tryz.params12] at ht
  have hm : t ∈ ([34, 3, 3, 3, 9] : List TypeId) := by simpa using Array.mem_of_getElem? ht
  have hall : ∀ t ∈ ([34, 3, 3, 3, 9] : List TypeId), Pg.wantsStandIn t = false := List.all_eq_true.1 (show (([34, 3, 3, 3, 9] : List TypeId).all fun t => Pg.wantsStandIn t == false) = true by kernel_rfl) |> fun h t ht => eq_of_beq (h t ht)
  exact hall t hm
theorem placesAnswers_card : Rows.PlacesAnswersCardSaid :=
  Claim7.holds_tied_plain_at .later [] _ _ _ _ said_PlacesAnswers (fun _ h => by cases h) wf_PlacesAnswers (fun _ h => by cases h) placesAnswers_row_tie rfl ⟨rfl, rfl⟩ main_PlacesAnswers rfl plain_PlacesAnswers goes_PlacesAnswers
end Go.Proofs.YtpndfdfipkadkaaGreatDoor
