/-
  Layer 14: the document's examples, run in the abstract machine.
-/
import Derived.Test.YtjobmgleekphjaaE19
import Derived.Test.YtjobmgleekphjaaProg
import Derived.WalkKit
namespace Go.Eng.T3
open Go.Proofs

def resB (r : R (Res × AH)) : Option Bool :=
  match r with
  | .ok (.val (.bool b), _) => some b
  | _ => none

theorem shown28 : resB (fRun Try.prog 5000 (.call 28 []) AH.empty) = some true := by kernel_rfl

end Go.Eng.T3
