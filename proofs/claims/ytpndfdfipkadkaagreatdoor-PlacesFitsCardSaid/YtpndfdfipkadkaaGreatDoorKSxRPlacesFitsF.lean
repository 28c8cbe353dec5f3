/- The law holds: part 261. Conditions: none. -/
import Derived.Test.YtpndfdfipkadkaaGreatDoorRows
import Derived.JoinedOf
set_option linter.all false
set_option maxRecDepth 100000
namespace Go.Proofs.YtpndfdfipkadkaaGreatDoor
open Go
theorem named_PlacesFits:Tryz.checked.prog.funcNamed Rows.placesFitsRow.func=some 13:=by kernel_rfl
set_option maxHeartbeats 20000000 in
theorem facts_PlacesFits:joinedFacts Tryz.checked.prog 13 Tryz.f13 Rows.placesFitsSpec Rows.placesFitsRow=true:=by
 show joinedFacts Tryz.prog 13 Tryz.f13 Rows.placesFitsSpec Rows.placesFitsRow=true
 unfold joinedFacts
 simp only[Bool.and_eq_true]
 repeat' apply And.intro
 all_goals as_aux_lemma=>kernel_rfl
theorem inst_PlacesFits:Tryz.f13.isInstance Tryz.checked.prog Rows.placesFitsRow.origin Rows.placesFitsRow.targs:=of_decide_eq_true (by kernel_rfl)
theorem wrap_PlacesFits:Tryz.f13.isWrapper Tryz.checked.prog Rows.placesFitsRow.wrapper Rows.placesFitsRow.mainSum:=by unfold Func.isWrapper;first | (rw[if_pos (by decide+kernel)];kernel_rfl) | (rw[if_neg (by decide+kernel)];exact⟨rfl,rfl⟩)
end Go.Proofs.YtpndfdfipkadkaaGreatDoor
