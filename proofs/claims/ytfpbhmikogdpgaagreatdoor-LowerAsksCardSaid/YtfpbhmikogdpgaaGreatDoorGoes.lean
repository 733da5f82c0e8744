/- The last closed facts of the card: that the call starts no goroutine. -/
import Derived.Test.YtfpbhmikogdpgaaGreatDoorCards
import Derived.KernelRfl
namespace Go.Proofs.YtfpbhmikogdpgaaGreatDoor.lowerAsks
open Go
theorem goesT : false = Rows.lowerAsksRow.goesBy Tryz.pinned.checked.prog := by kernel_rfl
end Go.Proofs.YtfpbhmikogdpgaaGreatDoor.lowerAsks
