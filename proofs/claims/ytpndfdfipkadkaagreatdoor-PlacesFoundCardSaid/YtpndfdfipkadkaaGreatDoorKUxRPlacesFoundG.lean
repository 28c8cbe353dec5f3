/- The law holds: part 388. Conditions: none. -/
import Derived.Test.YtpndfdfipkadkaaGreatDoorCards
import Derived.SevenTiedAt
set_option linter.all false
set_option maxRecDepth 100000
namespace Go.Proofs.YtpndfdfipkadkaaGreatDoor
open Go
theorem wf_PlacesFound:Rows.placesFoundRow.wfByText (OpenSpec.ofChange Rows.placesFoundSpec)=true:=by kernel_rfl
theorem main_PlacesFound:Tryz.pinned.checked.prog.mainIs=some (true, "9af05cec4574c33293f5f8d228ddeba93bc34e2d9c1ecf95482ff0c8e33f14d6".toList):=by kernel_rfl
end Go.Proofs.YtpndfdfipkadkaaGreatDoor
