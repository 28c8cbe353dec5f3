/- The law holds: part 47. Conditions: none. -/
import Derived.Test.YtpndfdfipkadkaaGreatDoorRows
import Derived.JoinedOf
set_option linter.all false
set_option maxRecDepth 100000
namespace Go.Proofs.YtpndfdfipkadkaaGreatDoor
open Go
theorem named4 : Tryz.checked.prog.funcNamed Rows.placesSpellsRow.func = some 4 := by kernel_rfl
set_option maxHeartbeats 20000000 in
theorem facts4 : joinedFacts Tryz.checked.prog 4 Tryz.f4 Rows.placesSpellsSpec Rows.placesSpellsRow = true := by
  show joinedFacts Tryz.prog 4 Tryz.f4 Rows.placesSpellsSpec Rows.placesSpellsRow = true
  unfold joinedFacts
  simp only [Bool.and_eq_true]
  repeat' apply And.intro
  all_goals as_aux_lemma => kernel_rfl
theorem inst4 : Tryz.f4.isInstance Tryz.checked.prog Rows.placesSpellsRow.origin Rows.placesSpellsRow.targs := of_decide_eq_true (by kernel_rfl)
theorem wrap4 : Tryz.f4.isWrapper Tryz.checked.prog Rows.placesSpellsRow.wrapper Rows.placesSpellsRow.mainSum := by unfold Func.isWrapper; first | (rw [if_pos (by decide +kernel)]; kernel_rfl) | (rw [if_neg (by decide +kernel)]; exact ⟨rfl, rfl⟩)
end Go.Proofs.YtpndfdfipkadkaaGreatDoor
