/- The law holds: part 151. Conditions: none. -/
import Derived.Test.YtpndfdfipkadkaaGreatDoorRows
import Derived.JoinedOf
set_option linter.all false
set_option maxRecDepth 100000
namespace Go.Proofs.YtpndfdfipkadkaaGreatDoor
open Go
theorem named_PlacesNil : Tryz.checked.prog.funcNamed Rows.placesNilRow.func = some 16 := by kernel_rfl
set_option maxHeartbeats 20000000 in
theorem facts_PlacesNil : joinedFacts Tryz.checked.prog 16 Tryz.f16 Rows.placesNilSpec Rows.placesNilRow = true := by
  show joinedFacts Tryz.prog 16 Tryz.f16 Rows.placesNilSpec Rows.placesNilRow = true
  unfold joinedFacts
  simp only [Bool.and_eq_true]
  repeat' apply And.intro
  all_goals as_aux_lemma => kernel_rfl
theorem inst_PlacesNil : Tryz.f16.isInstance Tryz.checked.prog Rows.placesNilRow.origin Rows.placesNilRow.targs := of_decide_eq_true (by kernel_rfl)
theorem wrap_PlacesNil : Tryz.f16.isWrapper Tryz.checked.prog Rows.placesNilRow.wrapper Rows.placesNilRow.mainSum := by unfold Func.isWrapper; first | (rw [if_pos (by decide +kernel)]; kernel_rfl) | (rw [if_neg (by decide +kernel)]; exact ⟨rfl, rfl⟩)
end Go.Proofs.YtpndfdfipkadkaaGreatDoor
