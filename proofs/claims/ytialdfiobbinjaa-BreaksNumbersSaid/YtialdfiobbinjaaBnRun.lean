/-
  The run of 'platenlaw15.BreaksNumbers' in the abstract machine.
-/
import Derived.Test.YtialdfiobbinjaaE19
import Derived.Test.YtialdfiobbinjaaProg
import Derived.WalkKit
namespace Go.Proofs.Ytialdfiobbinjaa.breaksNumbers
open Go.Eng

theorem fast : fLaw Try.prog 5000 3 = .ok (.bool true) := by kernel_rfl

theorem run : aLaw Try.prog 5000 3 = .ok (.bool true) := fLaw_eq.symm.trans fast

end Go.Proofs.Ytialdfiobbinjaa.breaksNumbers
