/- The law holds: part 94. Conditions: none. -/
import Derived.Test.YtpndfdfipkadkaaGreatDoorKPxRPlacesLines
import Derived.Test.YtpndfdfipkadkaaGreatDoorKPxRPlacesLinesF
import Derived.Test.YtpndfdfipkadkaaGreatDoorKPxRPlacesLinesG
import Derived.Test.YtpndfdfipkadkaaGreatDoorKPxRPlacesLinesH
set_option linter.all false
set_option maxRecDepth 100000
namespace Go.Proofs.YtpndfdfipkadkaaGreatDoor
open Go Go.Wx Go.Ax Go.ChangeShapes Go.WideShapes Go.ChangeAt Go.RowKit
open Go.ChangeMaps (open_string shut_string)
theorem said_PlacesLines : Rows.PlacesLinesSaid :=
  OpenClaim.holds_of_cond 3 Tryz.f3 rfl rfl rfl rfl rfl rfl rfl ⟨rfl, rfl, rfl, rfl, rfl⟩ rfl rfl rfl rfl rfl named_PlacesLines Tryz.func3 facts_PlacesLines inst_PlacesLines wrap_PlacesLines
    (fun os started H enc _ F => by rw [OpenClaim.pre_eq_preRow]; exact lifted_PlacesLines os started H enc F)
theorem plain_PlacesLines (f : FuncId) (fn : Func) (hf : Tryz.pinned.checked.prog.funcNamed "restante/restantelaw02.PlacesLines" = some f) (hfn : Tryz.pinned.checked.prog.funcs[f]? = some fn) :
    true = Tryz.pinned.checked.prog.looks [] ∧ ∀ (j : Nat) t, fn.params[j]? = some t → Tryz.pinned.checked.prog.wantsStandIn t = false := by
  obtain rfl : f = 3 := Option.some.inj ((show Pg.funcNamed "restante/restantelaw02.PlacesLines" = some 3 by kernel_rfl).symm.trans hf) |>.symm
  obtain rfl : fn = Tryz.f3 := (Option.some.inj (Tryz.func3.symm.trans hfn)).symm
  refine ⟨by kernel_rfl, fun j t ht => ?_⟩
  rw [Tryz.params3] at ht
  have hm : t ∈ ([23, 9] : List TypeId) := by simpa using Array.mem_of_getElem? ht
  have hall : ∀ t ∈ ([23, 9] : List TypeId), Pg.wantsStandIn t = false := List.all_eq_true.1 (show (([23, 9] : List TypeId).all fun t => Pg.wantsStandIn t == false) = true by kernel_rfl) |> fun h t ht => eq_of_beq (h t ht)
  exact hall t hm
theorem placesLines_card : Rows.PlacesLinesCardSaid :=
  Claim7.holds_tied_plain_at .later [] _ _ _ _ said_PlacesLines (fun _ h => by cases h) wf_PlacesLines (fun _ h => by cases h) placesLines_row_tie rfl ⟨rfl, rfl⟩ main_PlacesLines rfl plain_PlacesLines goes_PlacesLines
end Go.Proofs.YtpndfdfipkadkaaGreatDoor
