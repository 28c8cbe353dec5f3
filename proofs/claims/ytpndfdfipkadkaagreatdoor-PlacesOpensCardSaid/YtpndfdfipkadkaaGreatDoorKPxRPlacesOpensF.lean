/- The law holds: part 75. Conditions: none. -/
import Derived.Test.YtpndfdfipkadkaaGreatDoorRows
import Derived.JoinedOf
set_option linter.all false
set_option maxRecDepth 100000
namespace Go.Proofs.YtpndfdfipkadkaaGreatDoor
open Go
theorem named_PlacesOpens : Tryz.checked.prog.funcNamed Rows.placesOpensRow.func = some 6 := by kernel_rfl
set_option maxHeartbeats 20000000 in
theorem facts_PlacesOpens : joinedFacts Tryz.checked.prog 6 Tryz.f6 Rows.placesOpensSpec Rows.placesOpensRow = true := by
  show joinedFacts Tryz.prog 6 Tryz.f6 Rows.placesOpensSpec Rows.placesOpensRow = true
  unfold joinedFacts
  simp only [Bool.and_eq_true]
  repeat' apply And.intro
  all_goals as_aux_lemma => kernel_rfl
theorem inst_PlacesOpens : Tryz.f6.isInstance Tryz.checked.prog Rows.placesOpensRow.origin Rows.placesOpensRow.targs := of_decide_eq_true (by kernel_rfl)
theorem wrap_PlacesOpens : Tryz.f6.isWrapper Tryz.checked.prog Rows.placesOpensRow.wrapper Rows.placesOpensRow.mainSum := by unfold Func.isWrapper; first | (rw [if_pos (by decide +kernel)]; kernel_rfl) | (rw [if_neg (by decide +kernel)]; exact ⟨rfl, rfl⟩)
end Go.Proofs.YtpndfdfipkadkaaGreatDoor
