/- The law holds: part 85. Conditions: none. -/
import Derived.Test.YtpndfdfipkadkaaGreatDoorRows
import Derived.JoinedOf
set_option linter.all false
set_option maxRecDepth 100000
namespace Go.Proofs.YtpndfdfipkadkaaGreatDoor
open Go
theorem named_PlacesLimit : Tryz.checked.prog.funcNamed Rows.placesLimitRow.func = some 7 := by kernel_rfl
set_option maxHeartbeats 20000000 in
theorem facts_PlacesLimit : joinedFacts Tryz.checked.prog 7 Tryz.f7 Rows.placesLimitSpec Rows.placesLimitRow = true := by
  show joinedFacts Tryz.prog 7 Tryz.f7 Rows.placesLimitSpec Rows.placesLimitRow = true
  unfold joinedFacts
  simp only [Bool.and_eq_true]
  repeat' apply And.intro
  all_goals as_aux_lemma => kernel_rfl
theorem inst_PlacesLimit : Tryz.f7.isInstance Tryz.checked.prog Rows.placesLimitRow.origin Rows.placesLimitRow.targs := of_decide_eq_true (by kernel_rfl)
theorem wrap_PlacesLimit : Tryz.f7.isWrapper Tryz.checked.prog Rows.placesLimitRow.wrapper Rows.placesLimitRow.mainSum := by unfold Func.isWrapper; first | (rw [if_pos (by decide +kernel)]; kernel_rfl) | (rw [if_neg (by decide +kernel)]; exact ⟨rfl, rfl⟩)
end Go.Proofs.YtpndfdfipkadkaaGreatDoor
