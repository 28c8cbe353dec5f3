/- The law holds: part 264. Conditions: none. -/
import Derived.Test.YtpndfdfipkadkaaGreatDoorKSxRPlacesFits
import Derived.Test.YtpndfdfipkadkaaGreatDoorKSxRPlacesFitsF
import Derived.Test.YtpndfdfipkadkaaGreatDoorKSxRPlacesFitsG
import Derived.Test.YtpndfdfipkadkaaGreatDoorKSxRPlacesFitsH
set_option linter.all false
set_option maxRecDepth 100000
namespace Go.Proofs.YtpndfdfipkadkaaGreatDoor
open Go Go.Wx Go.Ax Go.ChangeShapes Go.WideShapes Go.ChangeAt Go.RowKit
open Go.ChangeMaps (open_string shut_string)
theorem said_PlacesFits:Rows.PlacesFitsSaid:=
 OpenClaim.holds_of_cond 13 Tryz.f13 rfl rfl rfl rfl rfl rfl rfl ⟨rfl,rfl,rfl,rfl,rfl⟩ rfl rfl rfl rfl rfl named_PlacesFits Tryz.func13 facts_PlacesFits inst_PlacesFits wrap_PlacesFits
  (fun os started H enc _ F=>by rw[OpenClaim.pre_eq_preRow];exact lifted_PlacesFits os started H enc F)
theorem plain_PlacesFits (f : FuncId) (fn : Func) (hf : Tryz.pinned.checked.prog.funcNamed "restante/restantelaw02.PlacesFits" = some f) (hfn : Tryz.pinned.checked.prog.funcs[f]? = some fn) :
    true = Tryz.pinned.checked.prog.looks [] ∧ ∀ (j : Nat) t, fn.params[j]? = some t → Tryz.pinned.checked.prog.wantsStandIn t = false := by
  obtain rfl : f = 13 := Option.some.inj ((show Pg.funcNamed "restante/restantelaw02.PlacesFits" = some 13 by kernel_rfl).symm.trans hf) |>.symm
  obtain rfl : fn = Tryz.f13 := (Option.some.inj (Tryz.func13.symm.trans hfn)).symm
  refine ⟨by kernel_rfl, fun j t ht => ?_⟩
  rw [Tryz.params13] at ht
  have hm : t ∈ ([34, 3, 3, 75, 31] : List TypeId) := by simpa using Array.mem_of_getElem? ht
  have hall : ∀ t ∈ ([34, 3, 3, 75, 31] : List TypeId), Pg.wantsStandIn t = false := List.all_eq_true.1 (show (([34, 3, 3, 75, 31] : List TypeId).all fun t => Pg.wantsStandIn t == false) = true by kernel_rfl) |> fun h t ht => eq_of_beq (h t ht)
  exact hall t hm
theorem placesFits_card:Rows.PlacesFitsCardSaid:=
 Claim7.holds_tied_plain_at .later [] _ _ _ _ said_PlacesFits (fun _ h=>by cases h) wf_PlacesFits (fun _ h=>by cases h) placesFits_row_tie rfl ⟨rfl,rfl⟩ main_PlacesFits rfl plain_PlacesFits goes_PlacesFits
end Go.Proofs.YtpndfdfipkadkaaGreatDoor
