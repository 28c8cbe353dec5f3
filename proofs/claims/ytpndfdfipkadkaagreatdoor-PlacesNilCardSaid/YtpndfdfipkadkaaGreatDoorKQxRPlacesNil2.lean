/- The law holds: part 154. Conditions: none. -/
import Derived.Test.YtpndfdfipkadkaaGreatDoorKQxRPlacesNil
import Derived.Test.YtpndfdfipkadkaaGreatDoorKQxRPlacesNilF
import Derived.Test.YtpndfdfipkadkaaGreatDoorKQxRPlacesNilG
import Derived.Test.YtpndfdfipkadkaaGreatDoorKQxRPlacesNilH
set_option linter.all false
set_option maxRecDepth 100000
namespace Go.Proofs.YtpndfdfipkadkaaGreatDoor
open Go Go.Wx Go.Ax Go.ChangeShapes Go.WideShapes Go.ChangeAt Go.RowKit
open Go.ChangeMaps (open_string shut_string)
theorem said_PlacesNil : Rows.PlacesNilSaid :=
  OpenClaim.holds_of_cond 16 Tryz.f16 rfl rfl rfl rfl rfl rfl rfl ⟨rfl, rfl, rfl, rfl, rfl⟩ rfl rfl rfl rfl rfl named_PlacesNil Tryz.func16 facts_PlacesNil inst_PlacesNil wrap_PlacesNil
    (fun os started H enc _ F => by rw [OpenClaim.pre_eq_preRow]; exact lifted_PlacesNil os started H enc F)
theorem plain_PlacesNil (f : FuncId) (fn : Func) (hf : Tryz.pinned.checked.prog.funcNamed "restante/restantelaw02.PlacesNil" = some f) (hfn : Tryz.pinned.checked.prog.funcs[f]? = some fn) :
    true = Tryz.pinned.checked.prog.looks [] ∧ ∀ (j : Nat) t, fn.params[j]? = some t → Tryz.pinned.checked.prog.wantsStandIn t = false := by
  obtain rfl : f = 16 := Option.some.inj ((show Pg.funcNamed "restante/restantelaw02.PlacesNil" = some 16 by kernel_rfl).symm.trans hf) |>.symm
  obtain rfl : fn = Tryz.f16 := (Option.some.inj (Tryz.func16.symm.trans hfn)).symm
  refine ⟨by kernel_rfl, fun j t ht => ?_⟩
  rw [Tryz.params16] at ht
  have hm : t ∈ ([23, 3, 3, 75, 31, 9] : List TypeId) := by simpa using Array.mem_of_getElem? ht
  have hall : ∀ t ∈ ([23, 3, 3, 75, 31, 9] : List TypeId), Pg.wantsStandIn t = false := List.all_eq_true.1 (show (([23, 3, 3, 75, 31, 9] : List TypeId).all fun t => Pg.wantsStandIn t == false) = true by kernel_rfl) |> fun h t ht => eq_of_beq (h t ht)
  exact hall t hm
theorem placesNil_card : Rows.PlacesNilCardSaid :=
  Claim7.holds_tied_plain_at .later [] _ _ _ _ said_PlacesNil (fun _ h => by cases h) wf_PlacesNil (fun _ h => by cases h) placesNil_row_tie rfl ⟨rfl, rfl⟩ main_PlacesNil rfl plain_PlacesNil goes_PlacesNil
end Go.Proofs.YtpndfdfipkadkaaGreatDoor

