/-
  Layer 15: the document's examples, run in the abstract machine.
-/
import Derived.Test.YtdehaeillolhbaaE19
import Derived.Test.YtdehaeillolhbaaProg
import Derived.WalkKit
namespace Go.Eng.T3
open Go.Proofs
def resB (r:R (Res×AH)):Option Bool:=
 match r with
 | .ok (.val (.bool b),_)=>some b
 | _=>none
theorem shown7:resB (fRun Try.prog 200000 (.call 7 []) AH.empty)=some true:=by kernel_rfl
end Go.Eng.T3
