/- The law holds: part 70. Conditions: none. -/
import Derived.Test.YtpndfdfipkadkaaGreatDoorRows
import Derived.JoinedOf
set_option linter.all false
set_option maxRecDepth 100000
namespace Go.Proofs.YtpndfdfipkadkaaGreatDoor
open Go
theorem named_PlacesDays : Tryz.checked.prog.funcNamed Rows.placesDaysRow.func = some 9 := by kernel_rfl
set_option maxHeartbeats 20000000 in
theorem facts_PlacesDays : joinedFacts Tryz.checked.prog 9 Tryz.f9 Rows.placesDaysSpec Rows.placesDaysRow = true := by
  show joinedFacts Tryz.prog 9 Tryz.f9 Rows.placesDaysSpec Rows.placesDaysRow = true
  unfold joinedFacts
  simp only [Bool.and_eq_true]
  repeat' apply And.intro
  all_goals as_aux_lemma => kernel_rfl
theorem inst_PlacesDays : Tryz.f9.isInstance Tryz.checked.prog Rows.placesDaysRow.origin Rows.placesDaysRow.targs := of_decide_eq_true (by kernel_rfl)
theorem wrap_PlacesDays : Tryz.f9.isWrapper Tryz.checked.prog Rows.placesDaysRow.wrapper Rows.placesDaysRow.mainSum := by unfold Func.isWrapper; first | (rw [if_pos (by decide +kernel)]; kernel_rfl) | (rw [if_neg (by decide +kernel)]; exact ⟨rfl, rfl⟩)
end Go.Proofs.YtpndfdfipkadkaaGreatDoor
