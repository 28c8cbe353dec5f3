/- The law holds: part 80. Conditions: none. -/
import Derived.Test.YtpndfdfipkadkaaGreatDoorRows
import Derived.JoinedOf
set_option linter.all false
set_option maxRecDepth 100000
namespace Go.Proofs.YtpndfdfipkadkaaGreatDoor
open Go
theorem named_PlacesChanges : Tryz.checked.prog.funcNamed Rows.placesChangesRow.func = some 11 := by kernel_rfl
set_option maxHeartbeats 20000000 in
theorem facts_PlacesChanges : joinedFacts Tryz.checked.prog 11 Tryz.f11 Rows.placesChangesSpec Rows.placesChangesRow = true := by
  show joinedFacts Tryz.prog 11 Tryz.f11 Rows.placesChangesSpec Rows.placesChangesRow = true
  unfold joinedFacts
  simp only [Bool.and_eq_true]
  repeat' apply And.intro
  all_goals as_aux_lemma => kernel_rfl
theorem inst_PlacesChanges : Tryz.f11.isInstance Tryz.checked.prog Rows.placesChangesRow.origin Rows.placesChangesRow.targs := of_decide_eq_true (by kernel_rfl)
theorem wrap_PlacesChanges : Tryz.f11.isWrapper Tryz.checked.prog Rows.placesChangesRow.wrapper Rows.placesChangesRow.mainSum := by unfold Func.isWrapper; first | (rw [if_pos (by decide +kernel)]; kernel_rfl) | (rw [if_neg (by decide +kernel)]; exact ⟨rfl, rfl⟩)
end Go.Proofs.YtpndfdfipkadkaaGreatDoor
