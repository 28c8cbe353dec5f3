/- The law holds: part 389. Conditions: none. -/
import Derived.Test.YtpndfdfipkadkaaGreatDoorCards
import Derived.SevenTiedAt
set_option linter.all false
set_option maxRecDepth 100000
namespace Go.Proofs.YtpndfdfipkadkaaGreatDoor
open Go
theorem goes_PlacesFound:false=Rows.placesFoundRow.goesBy Tryz.pinned.checked.prog:=by kernel_rfl
end Go.Proofs.YtpndfdfipkadkaaGreatDoor
