/- The law holds: part 65. Conditions: none. -/
import Derived.Test.YtpndfdfipkadkaaGreatDoorRows
import Derived.JoinedOf
set_option linter.all false
set_option maxRecDepth 100000
namespace Go.Proofs.YtpndfdfipkadkaaGreatDoor
open Go
theorem named_PlacesGoOn : Tryz.checked.prog.funcNamed Rows.placesGoOnRow.func = some 5 := by kernel_rfl
set_option maxHeartbeats 20000000 in
theorem facts_PlacesGoOn : joinedFacts Tryz.checked.prog 5 Tryz.f5 Rows.placesGoOnSpec Rows.placesGoOnRow = true := by
  show joinedFacts Tryz.prog 5 Tryz.f5 Rows.placesGoOnSpec Rows.placesGoOnRow = true
  unfold joinedFacts
  simp only [Bool.and_eq_true]
  repeat' apply And.intro
  all_goals as_aux_lemma => kernel_rfl
theorem inst_PlacesGoOn : Tryz.f5.isInstance Tryz.checked.prog Rows.placesGoOnRow.origin Rows.placesGoOnRow.targs := of_decide_eq_true (by kernel_rfl)
theorem wrap_PlacesGoOn : Tryz.f5.isWrapper Tryz.checked.prog Rows.placesGoOnRow.wrapper Rows.placesGoOnRow.mainSum := by unfold Func.isWrapper; first | (rw [if_pos (by decide +kernel)]; kernel_rfl) | (rw [if_neg (by decide +kernel)]; exact ⟨rfl, rfl⟩)
end Go.Proofs.YtpndfdfipkadkaaGreatDoor
