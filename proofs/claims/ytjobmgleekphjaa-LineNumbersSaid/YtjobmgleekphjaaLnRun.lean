/-
  The run of 'platenlaw14.LineNumbers' in the abstract machine.
-/
import Derived.Test.YtjobmgleekphjaaE17
import Derived.Test.YtjobmgleekphjaaProg
import Derived.WalkKit
namespace Go.Proofs.Ytjobmgleekphjaa.lineNumbers
open Go.Eng

theorem run : aLaw Try.prog 5000 15 = .ok (.bool true) := by kernel_rfl

end Go.Proofs.Ytjobmgleekphjaa.lineNumbers
