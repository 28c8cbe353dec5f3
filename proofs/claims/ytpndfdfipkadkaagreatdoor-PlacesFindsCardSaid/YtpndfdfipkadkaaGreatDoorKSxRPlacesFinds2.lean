/- The law holds: part 332. Conditions: none. -/
import Derived.Test.YtpndfdfipkadkaaGreatDoorKSxRPlacesFinds
import Derived.Test.YtpndfdfipkadkaaGreatDoorKSxRPlacesFindsF
import Derived.Test.YtpndfdfipkadkaaGreatDoorKSxRPlacesFindsG
import Derived.Test.YtpndfdfipkadkaaGreatDoorKSxRPlacesFindsH
set_option linter.all false
set_option maxRecDepth 100000
namespace Go.Proofs.YtpndfdfipkadkaaGreatDoor
open Go Go.Wx Go.Ax Go.ChangeShapes Go.WideShapes Go.ChangeAt Go.RowKit
open Go.ChangeMaps (open_string shut_string)
theorem said_PlacesFinds:Rows.PlacesFindsSaid:=
 OpenClaim.holds_of_cond 14 Tryz.f14 rfl rfl rfl rfl rfl rfl rfl ⟨rfl,rfl,rfl,rfl,rfl⟩ rfl rfl rfl rfl rfl named_PlacesFinds Tryz.func14 facts_PlacesFinds inst_PlacesFinds wrap_PlacesFinds
  (fun os started H enc _ F=>by rw[OpenClaim.pre_eq_preRow];exact lifted_PlacesFinds os started H enc F)
theorem plain_PlacesFinds (f : FuncId) (fn : Func) (hf : Tryz.pinned.checked.prog.funcNamed "restante/restantelaw02.PlacesFinds" = some f) (hfn : Tryz.pinned.checked.prog.funcs[f]? = some fn) :
    true = Tryz.pinned.checked.prog.looks [] ∧ ∀ (j : Nat) t, fn.params[j]? = some t → Tryz.pinned.checked.prog.wantsStandIn t = false := by
  obtain rfl : f = 14 := Option.some.inj ((show Pg.funcNamed "restante/restantelaw02.PlacesFinds" = some 14 by kernel_rfl).symm.trans hf) |>.symm
  obtain rfl : fn = Tryz.f14 := (Option.some.inj (Tryz.func14.symm.trans hfn)).symm
  refine ⟨by kernel_rfl, fun j t ht => ?_⟩
  rw [Tryz.params14] at ht
  have hm : t ∈ ([34, 3, 3, 75, 31, 3] : List TypeId) := by simpa using Array.mem_of_getElem? ht
  have hall : ∀ t ∈ ([34, 3, 3, 75, 31, 3] : List TypeId), Pg.wantsStandIn t = false := List.all_eq_true.1 (show (([34, 3, 3, 75, 31, 3] : List TypeId).all fun t => Pg.wantsStandIn t == false) = true by kernel_rfl) |> fun h t ht => eq_of_beq (h t ht)
  exact hall t hm
theorem placesFinds_card:Rows.PlacesFindsCardSaid:=
 Claim7.holds_tied_plain_at .later [] _ _ _ _ said_PlacesFinds (fun _ h=>by cases h) wf_PlacesFinds (fun _ h=>by cases h) placesFinds_row_tie rfl ⟨rfl,rfl⟩ main_PlacesFinds rfl plain_PlacesFinds goes_PlacesFinds
end Go.Proofs.YtpndfdfipkadkaaGreatDoor
