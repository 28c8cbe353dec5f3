/- The law holds: part 50. Conditions: none. -/
import Derived.Test.YtpndfdfipkadkaaGreatDoorKP41
import Derived.Test.YtpndfdfipkadkaaGreatDoorKPxRSpF
import Derived.Test.YtpndfdfipkadkaaGreatDoorKPxRSpG
import Derived.Test.YtpndfdfipkadkaaGreatDoorKPxRSpG2
set_option linter.all false
set_option maxRecDepth 100000
namespace Go.Proofs.YtpndfdfipkadkaaGreatDoor
open Go Go.Wx Go.Ax Go.ChangeShapes Go.WideShapes Go.ChangeAt Go.RowKit
theorem said : Rows.PlacesSpellsSaid :=
  OpenClaim.holds_of_cond 4 Tryz.f4 rfl rfl rfl rfl rfl rfl rfl ⟨rfl, rfl, rfl, rfl, rfl⟩ rfl rfl rfl rfl rfl named4 Tryz.func4 facts4 inst4 wrap4
    (fun os started H enc _ F => by rw [OpenClaim.pre_eq_preRow]; exact lifted os started H enc F)
theorem plain (f : FuncId) (fn : Func) (hf : Tryz.pinned.checked.prog.funcNamed "restante/restantelaw02.PlacesSpells" = some f) (hfn : Tryz.pinned.checked.prog.funcs[f]? = some fn) :
    true = Tryz.pinned.checked.prog.looks [] ∧ ∀ (j : Nat) t, fn.params[j]? = some t → Tryz.pinned.checked.prog.wantsStandIn t = false := by
  obtain rfl : f = 4 := Option.some.inj ((show Pg.funcNamed "restante/restantelaw02.PlacesSpells" = some 4 by kernel_rfl).symm.trans hf) |>.symm
  obtain rfl : fn = Tryz.f4 := (Option.some.inj (Tryz.func4.symm.trans hfn)).symm
  refine ⟨by kernel_rfl, fun j t ht => ?_⟩
  rw [Tryz.params4] at ht
  obtain rfl : t = 31 := by simpa using Array.mem_of_getElem? ht
  exact (show Pg.wantsStandIn 31 = false by kernel_rfl)
theorem placesSpells_card : Rows.PlacesSpellsCardSaid :=
  Claim7.holds_tied_plain_at .later [] _ _ _ _ said (fun _ h => by cases h) wf4 (fun _ h => by cases h) placesSpells_row_tie rfl ⟨rfl, rfl⟩ main4 rfl plain goes4
end Go.Proofs.YtpndfdfipkadkaaGreatDoor
