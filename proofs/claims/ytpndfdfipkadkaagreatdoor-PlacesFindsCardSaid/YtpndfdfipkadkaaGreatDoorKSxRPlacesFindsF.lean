/- The law holds: part 329. Conditions: none. -/
import Derived.Test.YtpndfdfipkadkaaGreatDoorRows
import Derived.JoinedOf
set_option linter.all false
set_option maxRecDepth 100000
namespace Go.Proofs.YtpndfdfipkadkaaGreatDoor
open Go
theorem named_PlacesFinds:Tryz.checked.prog.funcNamed Rows.placesFindsRow.func=some 14:=by kernel_rfl
set_option maxHeartbeats 20000000 in
theorem facts_PlacesFinds:joinedFacts Tryz.checked.prog 14 Tryz.f14 Rows.placesFindsSpec Rows.placesFindsRow=true:=by
 show joinedFacts Tryz.prog 14 Tryz.f14 Rows.placesFindsSpec Rows.placesFindsRow=true
 unfold joinedFacts
 simp only[Bool.and_eq_true]
 repeat' apply And.intro
 all_goals as_aux_lemma=>kernel_rfl
theorem inst_PlacesFinds:Tryz.f14.isInstance Tryz.checked.prog Rows.placesFindsRow.origin Rows.placesFindsRow.targs:=of_decide_eq_true (by kernel_rfl)
theorem wrap_PlacesFinds:Tryz.f14.isWrapper Tryz.checked.prog Rows.placesFindsRow.wrapper Rows.placesFindsRow.mainSum:=by unfold Func.isWrapper;first | (rw[if_pos (by decide+kernel)];kernel_rfl) | (rw[if_neg (by decide+kernel)];exact⟨rfl,rfl⟩)
end Go.Proofs.YtpndfdfipkadkaaGreatDoor
