/-
  The run of 'platenlaw20.AnswerNumbers' in the abstract machine.
-/
import Derived.Test.YtjobmgleekphjaaE17
import Derived.Test.YtjobmgleekphjaaProg
import Derived.WalkKit
namespace Go.Proofs.Ytjobmgleekphjaa.answerNumbers
open Go.Eng

theorem run : aLaw Try.prog 5000 7 = .ok (.bool true) := by kernel_rfl

end Go.Proofs.Ytjobmgleekphjaa.answerNumbers
