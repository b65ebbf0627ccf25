/-
  The run of 'platenlaw21.JudgeNames' in the abstract machine.
-/
import Derived.Test.YtndhmadiiicnlacE17
import Derived.Test.YtndhmadiiicnlacProg
import Derived.WalkKit
namespace Go.Proofs.Ytndhmadiiicnlac.judgeNames
open Go.Eng

theorem run : aLaw Try.prog 5000 3 = .ok (.bool true) := by kernel_rfl

end Go.Proofs.Ytndhmadiiicnlac.judgeNames
