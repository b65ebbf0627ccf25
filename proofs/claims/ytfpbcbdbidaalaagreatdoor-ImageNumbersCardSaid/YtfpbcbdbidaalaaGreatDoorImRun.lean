/-
  The run of 'platenlaw24.ImageNumbers' in the abstract machine.
-/
import Derived.Test.YtfpbcbdbidaalaaGreatDoorE19
import Derived.Test.YtfpbcbdbidaalaaGreatDoorProg
import Derived.WalkKit
namespace Go.Proofs.YtfpbcbdbidaalaaGreatDoor.imageNumbers
open Go.Eng

theorem fast : fLaw Tryz.prog 3000 3 = .ok (.bool true) := by kernel_rfl

theorem run : aLaw Tryz.prog 3000 3 = .ok (.bool true) := fLaw_eq.symm.trans fast

end Go.Proofs.YtfpbcbdbidaalaaGreatDoor.imageNumbers
