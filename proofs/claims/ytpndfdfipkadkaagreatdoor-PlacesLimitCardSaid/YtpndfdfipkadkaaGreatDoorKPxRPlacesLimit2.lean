/- The law holds: part 88. Conditions: none. -/
import Derived.Test.YtpndfdfipkadkaaGreatDoorKPxRPlacesLimit
import Derived.Test.YtpndfdfipkadkaaGreatDoorKPxRPlacesLimitF
import Derived.Test.YtpndfdfipkadkaaGreatDoorKPxRPlacesLimitG
import Derived.Test.YtpndfdfipkadkaaGreatDoorKPxRPlacesLimitH
set_option linter.all false
set_option maxRecDepth 100000
namespace Go.Proofs.YtpndfdfipkadkaaGreatDoor
open Go Go.Wx Go.Ax Go.ChangeShapes Go.WideShapes Go.ChangeAt Go.RowKit
open Go.ChangeMaps (open_string shut_string)
theorem said_PlacesLimit : Rows.PlacesLimitSaid :=
  OpenClaim.holds_of_cond 7 Tryz.f7 rfl rfl rfl rfl rfl rfl rfl ⟨rfl, rfl, rfl, rfl, rfl⟩ rfl rfl rfl rfl rfl named_PlacesLimit Tryz.func7 facts_PlacesLimit inst_PlacesLimit wrap_PlacesLimit
    (fun os started H enc _ F => by rw [OpenClaim.pre_eq_preRow]; exact lifted_PlacesLimit os started H enc F)
theorem plain_PlacesLimit (f : FuncId) (fn : Func) (hf : Tryz.pinned.checked.prog.funcNamed "restante/restantelaw02.PlacesLimit" = some f) (hfn : Tryz.pinned.checked.prog.funcs[f]? = some fn) :
    true = Tryz.pinned.checked.prog.looks [] ∧ ∀ (j : Nat) t, fn.params[j]? = some t → Tryz.pinned.checked.prog.wantsStandIn t = false := by
  obtain rfl : f = 7 := Option.some.inj ((show Pg.funcNamed "restante/restantelaw02.PlacesLimit" = some 7 by kernel_rfl).symm.trans hf) |>.symm
  obtain rfl : fn = Tryz.f7 := (Option.some.inj (Tryz.func7.symm.trans hfn)).symm
  refine ⟨by kernel_rfl, fun j t ht => ?_⟩
  rw [Tryz.params7] at ht
  have hm : t ∈ ([3, 9] : List TypeId) := by simpa using Array.mem_of_getElem? ht
  have hall : ∀ t ∈ ([3, 9] : List TypeId), Pg.wantsStandIn t = false := List.all_eq_true.1 (show (([3, 9] : List TypeId).all fun t => Pg.wantsStandIn t == false) = true by kernel_rfl) |> fun h t ht => eq_of_beq (h t ht)
  exact hall t hm
theorem placesLimit_card : Rows.PlacesLimitCardSaid :=
  Claim7.holds_tied_plain_at .later [] _ _ _ _ said_PlacesLimit (fun _ h => by cases h) wf_PlacesLimit (fun _ h => by cases h) placesLimit_row_tie rfl ⟨rfl, rfl⟩ main_PlacesLimit rfl plain_PlacesLimit goes_PlacesLimit
end Go.Proofs.YtpndfdfipkadkaaGreatDoor
