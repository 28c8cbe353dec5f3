/- The law holds: part 73. Conditions: none. -/
import Derived.Test.YtpndfdfipkadkaaGreatDoorKPxRPlacesDays
import Derived.Test.YtpndfdfipkadkaaGreatDoorKPxRPlacesDaysF
import Derived.Test.YtpndfdfipkadkaaGreatDoorKPxRPlacesDaysG
import Derived.Test.YtpndfdfipkadkaaGreatDoorKPxRPlacesDaysH
set_option linter.all false
set_option maxRecDepth 100000
namespace Go.Proofs.YtpndfdfipkadkaaGreatDoor
open Go Go.Wx Go.Ax Go.ChangeShapes Go.WideShapes Go.ChangeAt Go.RowKit
open Go.ChangeMaps (open_string shut_string)
theorem said_PlacesDays : Rows.PlacesDaysSaid :=
  OpenClaim.holds_of_cond 9 Tryz.f9 rfl rfl rfl rfl rfl rfl rfl ⟨rfl, rfl, rfl, rfl, rfl⟩ rfl rfl rfl rfl rfl named_PlacesDays Tryz.func9 facts_PlacesDays inst_PlacesDays wrap_PlacesDays
    (fun os started H enc _ F => by rw [OpenClaim.pre_eq_preRow]; exact lifted_PlacesDays os started H enc F)
theorem plain_PlacesDays (f : FuncId) (fn : Func) (hf : Tryz.pinned.checked.prog.funcNamed "restante/restantelaw02.PlacesDays" = some f) (hfn : Tryz.pinned.checked.prog.funcs[f]? = some fn) :
    true = Tryz.pinned.checked.prog.looks [] ∧ ∀ (j : Nat) t, fn.params[j]? = some t → Tryz.pinned.checked.prog.wantsStandIn t = false := by
  obtain rfl : f = 9 := Option.some.inj ((show Pg.funcNamed "restante/restantelaw02.PlacesDays" = some 9 by kernel_rfl).symm.trans hf) |>.symm
  obtain rfl : fn = Tryz.f9 := (Option.some.inj (Tryz.func9.symm.trans hfn)).symm
  refine ⟨by kernel_rfl, fun j t ht => ?_⟩
  rw [Tryz.params9] at ht
  have hm : t ∈ ([34, 34, 3, 3] : List TypeId) := by simpa using Array.mem_of_getElem? ht
  have hall : ∀ t ∈ ([34, 34, 3, 3] : List TypeId), Pg.wantsStandIn t = false := List.all_eq_true.1 (show (([34, 34, 3, 3] : List TypeId).all fun t => Pg.wantsStandIn t == false) = true by kernel_rfl) |> fun h t ht => eq_of_beq (h t ht)
  exact hall t hm
theorem placesDays_card : Rows.PlacesDaysCardSaid :=
  Claim7.holds_tied_plain_at .later [] _ _ _ _ said_PlacesDays (fun _ h => by cases h) wf_PlacesDays (fun _ h => by cases h) placesDays_row_tie rfl ⟨rfl, rfl⟩ main_PlacesDays rfl plain_PlacesDays goes_PlacesDays
end Go.Proofs.YtpndfdfipkadkaaGreatDoor
