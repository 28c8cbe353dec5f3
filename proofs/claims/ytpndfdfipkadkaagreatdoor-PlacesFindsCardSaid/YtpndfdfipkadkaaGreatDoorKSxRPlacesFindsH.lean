/- The law holds: part 331. Conditions: none. -/
import Derived.Test.YtpndfdfipkadkaaGreatDoorCards
import Derived.SevenTiedAt
set_option linter.all false
set_option maxRecDepth 100000
namespace Go.Proofs.YtpndfdfipkadkaaGreatDoor
open Go
theorem goes_PlacesFinds:false=Rows.placesFindsRow.goesBy Tryz.pinned.checked.prog:=by kernel_rfl
end Go.Proofs.YtpndfdfipkadkaaGreatDoor
