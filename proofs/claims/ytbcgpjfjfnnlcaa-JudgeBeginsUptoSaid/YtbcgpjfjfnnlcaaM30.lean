/-
  A call that turns a list of one's own around (slices.Reverse).
-/
import Derived.Test.YtbcgpjfjfnnlcaaM29
set_option linter.unusedVariables false
set_option linter.unusedSimpArgs false
namespace Go.Eng
noncomputable section
variable {P : Program} {O : Orc}

end
end Go.Eng
