/- The law holds: part 390. Conditions: none. -/
import Derived.Test.YtpndfdfipkadkaaGreatDoorKUxRPlacesFound
import Derived.Test.YtpndfdfipkadkaaGreatDoorKUxRPlacesFoundF
import Derived.Test.YtpndfdfipkadkaaGreatDoorKUxRPlacesFoundG
import Derived.Test.YtpndfdfipkadkaaGreatDoorKUxRPlacesFoundH
set_option linter.all false
set_option maxRecDepth 100000
namespace Go.Proofs.YtpndfdfipkadkaaGreatDoor
open Go Go.Wx Go.Ax Go.ChangeShapes Go.WideShapes Go.ChangeAt Go.RowKit
open Go.ChangeMaps (open_string shut_string)
theorem said_PlacesFound:Rows.PlacesFoundSaid:=
 OpenClaim.holds_of_cond 15 Tryz.f15 rfl rfl rfl rfl rfl rfl rfl ⟨rfl,rfl,rfl,rfl,rfl⟩ rfl rfl rfl rfl rfl named_PlacesFound Tryz.func15 facts_PlacesFound inst_PlacesFound wrap_PlacesFound
  (fun os started H enc _ F=>by rw[OpenClaim.pre_eq_preRow];exact lifted_PlacesFound os started H enc F)
theorem plain_PlacesFound (f : FuncId) (fn : Func) (hf : Tryz.pinned.checked.prog.funcNamed "restante/restantelaw02.PlacesFound" = some f) (hfn : Tryz.pinned.checked.prog.funcs[f]? = some fn) :
    true = Tryz.pinned.checked.prog.looks [] ∧ ∀ (j : Nat) t, fn.params[j]? = some t → Tryz.pinned.checked.prog.wantsStandIn t = false := by
  obtain rfl : f = 15 := Option.some.inj ((show Pg.funcNamed "restante/restantelaw02.PlacesFound" = some 15 by kernel_rfl).symm.trans hf) |>.symm
  obtain rfl : fn = Tryz.f15 := (Option.some.inj (Tryz.func15.symm.trans hfn)).symm
  refine ⟨by kernel_rfl, fun j t ht => ?_⟩
  rw [Tryz.params15] at ht
  have hm : t ∈ ([34, 3, 3, 75, 31, 3] : List TypeId) := by simpa using Array.mem_of_getElem? ht
  have hall : ∀ t ∈ ([34, 3, 3, 75, 31, 3] : List TypeId), Pg.wantsStandIn t = false := List.all_eq_true.1 (show (([34, 3, 3, 75, 31, 3] : List TypeId).all fun t => Pg.wantsStandIn t == false) = true by kernel_rfl) |> fun h t ht => eq_of_beq (h t ht)
  exact hall t hm
theorem placesFound_card:Rows.PlacesFoundCardSaid:=
 Claim7.holds_tied_plain_at .later [] _ _ _ _ said_PlacesFound (fun _ h=>by cases h) wf_PlacesFound (fun _ h=>by cases h) placesFound_row_tie rfl ⟨rfl,rfl⟩ main_PlacesFound rfl plain_PlacesFound goes_PlacesFound
end Go.Proofs.YtpndfdfipkadkaaGreatDoor
