/- The law holds: part 83. Conditions: none. -/
import Derived.Test.YtpndfdfipkadkaaGreatDoorKPxRPlacesChanges
import Derived.Test.YtpndfdfipkadkaaGreatDoorKPxRPlacesChangesF
import Derived.Test.YtpndfdfipkadkaaGreatDoorKPxRPlacesChangesG
import Derived.Test.YtpndfdfipkadkaaGreatDoorKPxRPlacesChangesH
set_option linter.all false
set_option maxRecDepth 100000
namespace Go.Proofs.YtpndfdfipkadkaaGreatDoor
open Go Go.Wx Go.Ax Go.ChangeShapes Go.WideShapes Go.ChangeAt Go.RowKit
open Go.ChangeMaps (open_string shut_string)
theorem said_PlacesChanges : Rows.PlacesChangesSaid :=
  OpenClaim.holds_of_cond 11 Tryz.f11 rfl rfl rfl rfl rfl rfl rfl ⟨rfl, rfl, rfl, rfl, rfl⟩ rfl rfl rfl rfl rfl named_PlacesChanges Tryz.func11 facts_PlacesChanges inst_PlacesChanges wrap_PlacesChanges
    (fun os started H enc _ F => by rw [OpenClaim.pre_eq_preRow]; exact lifted_PlacesChanges os started H enc F)
theorem plain_PlacesChanges (f : FuncId) (fn : Func) (hf : Tryz.pinned.checked.prog.funcNamed "restante/restantelaw02.PlacesChanges" = some f) (hfn : Tryz.pinned.checked.prog.funcs[f]? = some fn) :
    true = Tryz.pinned.checked.prog.looks [] ∧ ∀ (j : Nat) t, fn.params[j]? = some t → Tryz.pinned.checked.prog.wantsStandIn t = false := by
  obtain rfl : f = 11 := Option.some.inj ((show Pg.funcNamed "restante/restantelaw02.PlacesChanges" = some 11 by kernel_rfl).symm.trans hf) |>.symm
  obtain rfl : fn = Tryz.f11 := (Option.some.inj (Tryz.func11.symm.trans hfn)).symm
  refine ⟨by kernel_rfl, fun j t ht => ?_⟩
  rw [Tryz.params11] at ht
  have hm : t ∈ ([34, 3, 3] : List TypeId) := by simpa using Array.mem_of_getElem? ht
  have hall : ∀ t ∈ ([34, 3, 3] : List TypeId), Pg.wantsStandIn t = false := List.all_eq_true.1 (show (([34, 3, 3] : List TypeId).all fun t => Pg.wantsStandIn t == false) = true by kernel_rfl) |> fun h t ht => eq_of_beq (h t ht)
  exact hall t hm
theorem placesChanges_card : Rows.PlacesChangesCardSaid :=
  Claim7.holds_tied_plain_at .later [] _ _ _ _ said_PlacesChanges (fun _ h => by cases h) wf_PlacesChanges (fun _ h => by cases h) placesChanges_row_tie rfl ⟨rfl, rfl⟩ main_PlacesChanges rfl plain_PlacesChanges goes_PlacesChanges
end Go.Proofs.YtpndfdfipkadkaaGreatDoor
