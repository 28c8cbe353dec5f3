/- The law holds: part 60. Conditions: none. -/
import Derived.Test.YtpndfdfipkadkaaGreatDoorRows
import Derived.JoinedOf
set_option linter.all false
set_option maxRecDepth 100000
namespace Go.Proofs.YtpndfdfipkadkaaGreatDoor
open Go
theorem named_PlacesAnswers : Tryz.checked.prog.funcNamed Rows.placesAnswersRow.func = some 12 := by kernel_rfl
set_option maxHeartbeats 20000000 in
theorem facts_PlacesAnswers : joinedFacts Tryz.checked.prog 12 Tryz.f12 Rows.placesAnswersSpec Rows.placesAnswersRow = true := by
  show joinedFacts Tryz.prog 12 Tryz.f12 Rows.placesAnswersSpec Rows.placesAnswersRow = true
  unfold joinedFacts
  simp only [Bool.and_eq_true]
  repeat' apply And.intro
  all_goals as_aux_lemma => kernel_rfl
theorem inst_PlacesAnswers : Tryz.f12.isInstance Tryz.checked.prog Rows.placesAnswersRow.origin Rows.placesAnswersRow.targs := of_decide_eq_true (by kernel_rfl)
theorem wrap_PlacesAnswers : Tryz.f12.isWrapper Tryz.checked.prog Rows.placesAnswersRow.wrapper Rows.placesAnswersRow.mainSum := by unfold Func.isWrapper; first | (rw [if_pos (by decide +kernel)]; kernel_rfl) | (rw [if_neg (by decide +kernel)]; exact ⟨rfl, rfl⟩)
end Go.Proofs.YtpndfdfipkadkaaGreatDoor
