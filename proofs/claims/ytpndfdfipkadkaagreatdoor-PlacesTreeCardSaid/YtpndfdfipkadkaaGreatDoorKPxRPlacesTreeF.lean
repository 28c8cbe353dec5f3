/- The law holds: part 55. Conditions: none. -/
import Derived.Test.YtpndfdfipkadkaaGreatDoorRows
import Derived.JoinedOf
set_option linter.all false
set_option maxRecDepth 100000
namespace Go.Proofs.YtpndfdfipkadkaaGreatDoor
open Go
theorem named_PlacesTree : Tryz.checked.prog.funcNamed Rows.placesTreeRow.func = some 10 := by kernel_rfl
set_option maxHeartbeats 20000000 in
theorem facts_PlacesTree : joinedFacts Tryz.checked.prog 10 Tryz.f10 Rows.placesTreeSpec Rows.placesTreeRow = true := by
  show joinedFacts Tryz.prog 10 Tryz.f10 Rows.placesTreeSpec Rows.placesTreeRow = true
  unfold joinedFacts
  simp only [Bool.and_eq_true]
  repeat' apply And.intro
  all_goals as_aux_lemma => kernel_rfl
theorem inst_PlacesTree : Tryz.f10.isInstance Tryz.checked.prog Rows.placesTreeRow.origin Rows.placesTreeRow.targs := of_decide_eq_true (by kernel_rfl)
theorem wrap_PlacesTree : Tryz.f10.isWrapper Tryz.checked.prog Rows.placesTreeRow.wrapper Rows.placesTreeRow.mainSum := by unfold Func.isWrapper; first | (rw [if_pos (by decide +kernel)]; kernel_rfl) | (rw [if_neg (by decide +kernel)]; exact ⟨rfl, rfl⟩)
end Go.Proofs.YtpndfdfipkadkaaGreatDoor
