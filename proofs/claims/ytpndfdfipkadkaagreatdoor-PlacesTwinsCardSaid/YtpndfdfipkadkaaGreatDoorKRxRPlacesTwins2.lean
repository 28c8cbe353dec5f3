/- The law holds: part 210. Conditions: none. -/
import Derived.Test.YtpndfdfipkadkaaGreatDoorKRxRPlacesTwins
import Derived.Test.YtpndfdfipkadkaaGreatDoorKRxRPlacesTwinsF
import Derived.Test.YtpndfdfipkadkaaGreatDoorKRxRPlacesTwinsG
import Derived.Test.YtpndfdfipkadkaaGreatDoorKRxRPlacesTwinsH
set_option linter.all false
set_option maxRecDepth 100000
namespace Go.Proofs.YtpndfdfipkadkaaGreatDoor
open Go Go.Wx Go.Ax Go.ChangeShapes Go.WideShapes Go.ChangeAt Go.RowKit
open Go.ChangeMaps (open_string shut_string)
theorem said_PlacesTwins : Rows.PlacesTwinsSaid :=
 OpenClaim.holds_of_cond 8 Tryz.f8 rfl rfl rfl rfl rfl rfl rfl ⟨rfl, rfl, rfl, rfl, rfl⟩ rfl rfl rfl rfl rfl named_PlacesTwins Tryz.func8 facts_PlacesTwins inst_PlacesTwins wrap_PlacesTwins
  (fun os started H enc _ F => by rw [OpenClaim.pre_eq_preRow]; exact lifted_PlacesTwins os started H enc F)
theorem plain_PlacesTwins (f : FuncId) (fn : Func) (hf : Tryz.pinned.checked.prog.funcNamed "restante/restantelaw02.PlacesTwins" = some f) (hfn : Tryz.pinned.checked.prog.funcs[f]? = some fn) :
    true = Tryz.pinned.checked.prog.looks [] ∧ ∀ (j : Nat) t, fn.params[j]? = some t → Tryz.pinned.checked.prog.wantsStandIn t = false := by
  obtain rfl : f = 8 := Option.some.inj ((show Pg.funcNamed "restante/restantelaw02.PlacesTwins" = some 8 by kernel_rfl).symm.trans hf) |>.symm
  obtain rfl : fn = Tryz.f8 := (Option.some.inj (Tryz.func8.symm.trans hfn)).symm
  refine ⟨by kernel_rfl, fun j t ht => ?_⟩
  rw [Tryz.params8] at ht
  have hm : t ∈ ([34, 3, 3, 31] : List TypeId) := by simpa using Array.mem_of_getElem? ht
  have hall : ∀ t ∈ ([34, 3, 3, 31] : List TypeId), Pg.wantsStandIn t = false := List.all_eq_true.1 (show (([34, 3, 3, 31] : List TypeId).all fun t => Pg.wantsStandIn t == false) = true by kernel_rfl) |> fun h t ht => eq_of_beq (h t ht)
  exact hall t hm
theorem placesTwins_card : Rows.PlacesTwinsCardSaid :=
 Claim7.holds_tied_plain_at .later [] _ _ _ _ said_PlacesTwins (fun _ h => by cases h) wf_PlacesTwins (fun _ h => by cases h) placesTwins_row_tie rfl ⟨rfl, rfl⟩ main_PlacesTwins rfl plain_PlacesTwins goes_PlacesTwins
end Go.Proofs.YtpndfdfipkadkaaGreatDoor
