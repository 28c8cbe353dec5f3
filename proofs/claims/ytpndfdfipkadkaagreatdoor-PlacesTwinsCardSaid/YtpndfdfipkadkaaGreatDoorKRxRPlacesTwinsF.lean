/- The law holds: part 207. Conditions: none. -/
import Derived.Test.YtpndfdfipkadkaaGreatDoorRows
import Derived.JoinedOf
set_option linter.all false
set_option maxRecDepth 100000
namespace Go.Proofs.YtpndfdfipkadkaaGreatDoor
open Go
theorem named_PlacesTwins : Tryz.checked.prog.funcNamed Rows.placesTwinsRow.func = some 8 := by kernel_rfl
set_option maxHeartbeats 20000000 in
theorem facts_PlacesTwins : joinedFacts Tryz.checked.prog 8 Tryz.f8 Rows.placesTwinsSpec Rows.placesTwinsRow = true := by
 show joinedFacts Tryz.prog 8 Tryz.f8 Rows.placesTwinsSpec Rows.placesTwinsRow = true
 unfold joinedFacts
 simp only [Bool.and_eq_true]
 repeat' apply And.intro
 all_goals as_aux_lemma => kernel_rfl
theorem inst_PlacesTwins : Tryz.f8.isInstance Tryz.checked.prog Rows.placesTwinsRow.origin Rows.placesTwinsRow.targs := of_decide_eq_true (by kernel_rfl)
theorem wrap_PlacesTwins : Tryz.f8.isWrapper Tryz.checked.prog Rows.placesTwinsRow.wrapper Rows.placesTwinsRow.mainSum := by unfold Func.isWrapper; first | (rw [if_pos (by decide +kernel)]; kernel_rfl) | (rw [if_neg (by decide +kernel)]; exact ⟨rfl, rfl⟩)
end Go.Proofs.YtpndfdfipkadkaaGreatDoor
