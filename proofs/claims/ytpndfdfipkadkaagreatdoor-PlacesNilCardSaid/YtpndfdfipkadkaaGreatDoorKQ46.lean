/- The law holds: part 147. Conditions: none. -/
import Derived.Test.YtpndfdfipkadkaaGreatDoorKQ45
set_option linter.all false
set_option maxRecDepth 100000
namespace Go.Proofs.YtpndfdfipkadkaaGreatDoor
open Go Go.Wx Go.Ax
end Go.Proofs.YtpndfdfipkadkaaGreatDoor
