/- The law holds: part 91. Conditions: none. -/
import Derived.Test.YtpndfdfipkadkaaGreatDoorRows
import Derived.JoinedOf
set_option linter.all false
set_option maxRecDepth 100000
namespace Go.Proofs.YtpndfdfipkadkaaGreatDoor
open Go
theorem named_PlacesLines : Tryz.checked.prog.funcNamed Rows.placesLinesRow.func = some 3 := by kernel_rfl
set_option maxHeartbeats 20000000 in
theorem facts_PlacesLines : joinedFacts Tryz.checked.prog 3 Tryz.f3 Rows.placesLinesSpec Rows.placesLinesRow = true := by
  show joinedFacts Tryz.prog 3 Tryz.f3 Rows.placesLinesSpec Rows.placesLinesRow = true
  unfold joinedFacts
  simp only [Bool.and_eq_true]
  repeat' apply And.intro
  all_goals as_aux_lemma => kernel_rfl
theorem inst_PlacesLines : Tryz.f3.isInstance Tryz.checked.prog Rows.placesLinesRow.origin Rows.placesLinesRow.targs := of_decide_eq_true (by kernel_rfl)
theorem wrap_PlacesLines : Tryz.f3.isWrapper Tryz.checked.prog Rows.placesLinesRow.wrapper Rows.placesLinesRow.mainSum := by unfold Func.isWrapper; first | (rw [if_pos (by decide +kernel)]; kernel_rfl) | (rw [if_neg (by decide +kernel)]; exact ⟨rfl, rfl⟩)
end Go.Proofs.YtpndfdfipkadkaaGreatDoor
