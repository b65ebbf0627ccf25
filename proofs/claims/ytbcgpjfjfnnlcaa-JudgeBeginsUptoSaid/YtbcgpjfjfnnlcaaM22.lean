/-
  Arrays of one's own, slices of them, bytes and strings; a loop's round by itself.
-/
import Derived.Test.YtbcgpjfjfnnlcaaM21
set_option linter.unusedSimpArgs false
set_option linter.unusedVariables false
namespace Go.Eng
noncomputable section
variable {P : Program} {O : Orc}

section
variable {s : PS} {d : Option Tmp} {ty : TypeId} {pst : String} {af : Array Edge} {gu : Option (Nat × Bool)}

end
end
end Go.Eng
