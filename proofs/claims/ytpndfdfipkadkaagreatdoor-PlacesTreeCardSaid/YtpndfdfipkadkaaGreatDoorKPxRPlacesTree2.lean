/- The law holds: part 58. Conditions: none. -/
import Derived.Test.YtpndfdfipkadkaaGreatDoorKPxRPlacesTree
import Derived.Test.YtpndfdfipkadkaaGreatDoorKPxRPlacesTreeF
import Derived.Test.YtpndfdfipkadkaaGreatDoorKPxRPlacesTreeG
import Derived.Test.YtpndfdfipkadkaaGreatDoorKPxRPlacesTreeH
set_option linter.all false
set_option maxRecDepth 100000
namespace Go.Proofs.YtpndfdfipkadkaaGreatDoor
open Go Go.Wx Go.Ax Go.ChangeShapes Go.WideShapes Go.ChangeAt Go.RowKit
open Go.ChangeMaps (open_string shut_string)
theorem said_PlacesTree : Rows.PlacesTreeSaid :=
  OpenClaim.holds_of_cond 10 Tryz.f10 rfl rfl rfl rfl rfl rfl rfl ⟨rfl, rfl, rfl, rfl, rfl⟩ rfl rfl rfl rfl rfl named_PlacesTree Tryz.func10 facts_PlacesTree inst_PlacesTree wrap_PlacesTree
    (fun os started H enc _ F => by rw [OpenClaim.pre_eq_preRow]; exact lifted_PlacesTree os started H enc F)
theorem plain_PlacesTree (f : FuncId) (fn : Func) (hf : Tryz.pinned.checked.prog.funcNamed "restante/restantelaw02.PlacesTree" = some f) (hfn : Tryz.pinned.checked.prog.funcs[f]? = some fn) :
    true = Tryz.pinned.checked.prog.looks [] ∧ ∀ (j : Nat) t, fn.params[j]? = some t → Tryz.pinned.checked.prog.wantsStandIn t = false := by
  obtain rfl : f = 10 := Option.some.inj ((show Pg.funcNamed "restante/restantelaw02.PlacesTree" = some 10 by kernel_rfl).symm.trans hf) |>.symm
  obtain rfl : fn = Tryz.f10 := (Option.some.inj (Tryz.func10.symm.trans hfn)).symm
  refine ⟨by kernel_rfl, fun j t ht => ?_⟩
  rw [Tryz.params10] at ht
  have hm : t ∈ ([34, 3] : List TypeId) := by simpa using Array.mem_of_getElem? ht
  have hall : ∀ t ∈ ([34, 3] : List TypeId), Pg.wantsStandIn t = false := List.all_eq_true.1 (show (([34, 3] : List TypeId).all fun t => Pg.wantsStandIn t == false) = true by kernel_rfl) |> fun h t ht => eq_of_beq (h t ht)
  exact hall t hm
theorem placesTree_card : Rows.PlacesTreeCardSaid :=
  Claim7.holds_tied_plain_at .later [] _ _ _ _ said_PlacesTree (fun _ h => by cases h) wf_PlacesTree (fun _ h => by cases h) placesTree_row_tie rfl ⟨rfl, rfl⟩ main_PlacesTree rfl plain_PlacesTree goes_PlacesTree
end Go.Proofs.YtpndfdfipkadkaaGreatDoor
