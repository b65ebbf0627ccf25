/-
  The run of 'platenlaw13.ItemsNames' in the abstract machine.
-/
import Derived.Test.YtialdfiobbinjabE19
import Derived.Test.YtialdfiobbinjabProg
import Derived.WalkKit
namespace Go.Proofs.Ytialdfiobbinjab.itemsNames
open Go.Eng

theorem fast : fLaw Try.prog 5000 3 = .ok (.bool true) := by kernel_rfl

theorem run : aLaw Try.prog 5000 3 = .ok (.bool true) := fLaw_eq.symm.trans fast

end Go.Proofs.Ytialdfiobbinjab.itemsNames
