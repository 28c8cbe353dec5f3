/- The law holds: part 68. Conditions: none. -/
import Derived.Test.YtpndfdfipkadkaaGreatDoorKPxRPlacesGoOn
import Derived.Test.YtpndfdfipkadkaaGreatDoorKPxRPlacesGoOnF
import Derived.Test.YtpndfdfipkadkaaGreatDoorKPxRPlacesGoOnG
import Derived.Test.YtpndfdfipkadkaaGreatDoorKPxRPlacesGoOnH
set_option linter.all false
set_option maxRecDepth 100000
namespace Go.Proofs.YtpndfdfipkadkaaGreatDoor
open Go Go.Wx Go.Ax Go.ChangeShapes Go.WideShapes Go.ChangeAt Go.RowKit
open Go.ChangeMaps (open_string shut_string)
theorem said_PlacesGoOn : Rows.PlacesGoOnSaid :=
  OpenClaim.holds_of_cond 5 Tryz.f5 rfl rfl rfl rfl rfl rfl rfl ⟨rfl, rfl, rfl, rfl, rfl⟩ rfl rfl rfl rfl rfl named_PlacesGoOn Tryz.func5 facts_PlacesGoOn inst_PlacesGoOn wrap_PlacesGoOn
    (fun os started H enc _ F => by rw [OpenClaim.pre_eq_preRow]; exact lifted_PlacesGoOn os started H enc F)
theorem plain_PlacesGoOn (f : FuncId) (fn : Func) (hf : Tryz.pinned.checked.prog.funcNamed "restante/restantelaw02.PlacesGoOn" = some f) (hfn : Tryz.pinned.checked.prog.funcs[f]? = some fn) :
    true = Tryz.pinned.checked.prog.looks [] ∧ ∀ (j : Nat) t, fn.params[j]? = some t → Tryz.pinned.checked.prog.wantsStandIn t = false := by
  obtain rfl : f = 5 := Option.some.inj ((show Pg.funcNamed "restante/restantelaw02.PlacesGoOn" = some 5 by kernel_rfl).symm.trans hf) |>.symm
  obtain rfl : fn = Tryz.f5 := (Option.some.inj (Tryz.func5.symm.trans hfn)).symm
  refine ⟨by kernel_rfl, fun j t ht => ?_⟩
  rw [Tryz.params5] at ht
  have hm : t ∈ ([34, 3, 3, 3] : List TypeId) := by simpa using Array.mem_of_getElem? ht
  have hall : ∀ t ∈ ([34, 3, 3, 3] : List TypeId), Pg.wantsStandIn t = false := List.all_eq_true.1 (show (([34, 3, 3, 3] : List TypeId).all fun t => Pg.wantsStandIn t == false) = true by kernel_rfl) |> fun h t ht => eq_of_beq (h t ht)
  exact hall t hm
theorem placesGoOn_card : Rows.PlacesGoOnCardSaid :=
  Claim7.holds_tied_plain_at .later [] _ _ _ _ said_PlacesGoOn (fun _ h => by cases h) wf_PlacesGoOn (fun _ h => by cases h) placesGoOn_row_tie rfl ⟨rfl, rfl⟩ main_PlacesGoOn rfl plain_PlacesGoOn goes_PlacesGoOn
end Go.Proofs.YtpndfdfipkadkaaGreatDoor
