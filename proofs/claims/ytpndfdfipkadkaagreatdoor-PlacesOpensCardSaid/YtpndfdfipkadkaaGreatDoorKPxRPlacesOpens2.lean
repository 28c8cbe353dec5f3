/- The law holds: part 78. Conditions: none. -/
import Derived.Test.YtpndfdfipkadkaaGreatDoorKPxRPlacesOpens
import Derived.Test.YtpndfdfipkadkaaGreatDoorKPxRPlacesOpensF
import Derived.Test.YtpndfdfipkadkaaGreatDoorKPxRPlacesOpensG
import Derived.Test.YtpndfdfipkadkaaGreatDoorKPxRPlacesOpensH
set_option linter.all false
set_option maxRecDepth 100000
namespace Go.Proofs.YtpndfdfipkadkaaGreatDoor
open Go Go.Wx Go.Ax Go.ChangeShapes Go.WideShapes Go.ChangeAt Go.RowKit
open Go.ChangeMaps (open_string shut_string)
theorem said_PlacesOpens : Rows.PlacesOpensSaid :=
  OpenClaim.holds_of_cond 6 Tryz.f6 rfl rfl rfl rfl rfl rfl rfl ⟨rfl, rfl, rfl, rfl, rfl⟩ rfl rfl rfl rfl rfl named_PlacesOpens Tryz.func6 facts_PlacesOpens inst_PlacesOpens wrap_PlacesOpens
    (fun os started H enc _ F => by rw [OpenClaim.pre_eq_preRow]; exact lifted_PlacesOpens os started H enc F)
theorem plain_PlacesOpens (f : FuncId) (fn : Func) (hf : Tryz.pinned.checked.prog.funcNamed "restante/restantelaw02.PlacesOpens" = some f) (hfn : Tryz.pinned.checked.prog.funcs[f]? = some fn) :
    true = Tryz.pinned.checked.prog.looks [] ∧ ∀ (j : Nat) t, fn.params[j]? = some t → Tryz.pinned.checked.prog.wantsStandIn t = false := by
  obtain rfl : f = 6 := Option.some.inj ((show Pg.funcNamed "restante/restantelaw02.PlacesOpens" = some 6 by kernel_rfl).symm.trans hf) |>.symm
  obtain rfl : fn = Tryz.f6 := (Option.some.inj (Tryz.func6.symm.trans hfn)).symm
  refine ⟨by kernel_rfl, fun j t ht => ?_⟩
  rw [Tryz.params6] at ht
  have hm : t ∈ ([34, 23] : List TypeId) := by simpa using Array.mem_of_getElem? ht
  have hall : ∀ t ∈ ([34, 23] : List TypeId), Pg.wantsStandIn t = false := List.all_eq_true.1 (show (([34, 23] : List TypeId).all fun t => Pg.wantsStandIn t == false) = true by kernel_rfl) |> fun h t ht => eq_of_beq (h t ht)
  exact hall t hm
theorem placesOpens_card : Rows.PlacesOpensCardSaid :=
  Claim7.holds_tied_plain_at .later [] _ _ _ _ said_PlacesOpens (fun _ h => by cases h) wf_PlacesOpens (fun _ h => by cases h) placesOpens_row_tie rfl ⟨rfl, rfl⟩ main_PlacesOpens rfl plain_PlacesOpens goes_PlacesOpens
end Go.Proofs.YtpndfdfipkadkaaGreatDoor
