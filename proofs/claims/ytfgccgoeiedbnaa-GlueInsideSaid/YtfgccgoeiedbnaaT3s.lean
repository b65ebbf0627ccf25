/-
  Layer 16: the document's examples, run in the abstract machine.
-/
import Derived.Test.YtfgccgoeiedbnaaE19
import Derived.Test.YtfgccgoeiedbnaaProg
import Derived.WalkKit
namespace Go.Eng.T3
open Go.Proofs

def resB (r : R (Res × AH)) : Option Bool :=
  match r with
  | .ok (.val (.bool b), _) => some b
  | _ => none

theorem shown4 : resB (fRun Try.prog 20000 (.call 4 []) AH.empty) = some true := by kernel_rfl

end Go.Eng.T3
