/- The law holds: part 387. Conditions: none. -/
import Derived.Test.YtpndfdfipkadkaaGreatDoorRows
import Derived.JoinedOf
set_option linter.all false
set_option maxRecDepth 100000
namespace Go.Proofs.YtpndfdfipkadkaaGreatDoor
open Go
theorem named_PlacesFound:Tryz.checked.prog.funcNamed Rows.placesFoundRow.func=some 15:=by kernel_rfl
set_option maxHeartbeats 20000000 in
theorem facts_PlacesFound:joinedFacts Tryz.checked.prog 15 Tryz.f15 Rows.placesFoundSpec Rows.placesFoundRow=true:=by
 show joinedFacts Tryz.prog 15 Tryz.f15 Rows.placesFoundSpec Rows.placesFoundRow=true
 unfold joinedFacts
 simp only[Bool.and_eq_true]
 repeat' apply And.intro
 all_goals as_aux_lemma=>kernel_rfl
theorem inst_PlacesFound:Tryz.f15.isInstance Tryz.checked.prog Rows.placesFoundRow.origin Rows.placesFoundRow.targs:=of_decide_eq_true (by kernel_rfl)
theorem wrap_PlacesFound:Tryz.f15.isWrapper Tryz.checked.prog Rows.placesFoundRow.wrapper Rows.placesFoundRow.mainSum:=by unfold Func.isWrapper;first | (rw[if_pos (by decide+kernel)];kernel_rfl) | (rw[if_neg (by decide+kernel)];exact⟨rfl,rfl⟩)
end Go.Proofs.YtpndfdfipkadkaaGreatDoor
