/- The law holds: part 144. Conditions: none. -/
import Derived.Test.YtpndfdfipkadkaaGreatDoorKQ9
import Derived.Test.YtpndfdfipkadkaaGreatDoorKQ37
import Derived.Test.YtpndfdfipkadkaaGreatDoorKQ40
import Derived.Test.YtpndfdfipkadkaaGreatDoorKQ42
set_option linter.all false
set_option maxRecDepth 100000
namespace Go.Proofs.YtpndfdfipkadkaaGreatDoor
open Go Go.Wx Go.Ax
theorem frzt {H : Heap} : Frz H (.v (.bool true)) (db true) := .pd (.v _)
end Go.Proofs.YtpndfdfipkadkaaGreatDoor
set_option maxRecDepth 100000
namespace Go.Proofs.YtpndfdfipkadkaaGreatDoor
open Go Go.Wx Go.Ax
theorem rise_nodup {l : List Int} (h : l.Pairwise (· < ·)) : l.Nodup := h.imp fun h => by omega
theorem all_len {s : List Pl} (hn : (s.map (·.id)).Nodup) : (allL s).length ≤ s.length := by
  have := nodup_len (rise_nodup (all_rise s)) (m := s.map (·.id)) fun x hx => here_mem ((all_mem hn).1 hx)
  simpa using this
end Go.Proofs.YtpndfdfipkadkaaGreatDoor
