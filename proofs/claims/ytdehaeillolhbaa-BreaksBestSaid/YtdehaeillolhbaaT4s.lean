/- T4s -/
import Derived.Test.YtdehaeillolhbaaG6
import Derived.Test.YtdehaeillolhbaaProg
import Derived.WalkKit
set_option linter.unusedVariables false
set_option linter.unusedSimpArgs false
namespace Go.cy.T3
open Go.Proofs
def TD (r:R (Ds×AH)):Option Bool:=
 match r with
 | .ok (.val (.bool b),_)=>some b
 | _=>none
theorem Uf:TD (Lu Try.prog 200000 (.call 7 []) AH.empty)=some true:=by kernel_rfl
end Go.cy.T3
