/-
  A store into a list of one's own, whose row no other value knows: the region 'b[at] = b[at] ^ (1 << bit)'.
-/
import Derived.Test.YtbcgpjfjfnnlcaaM23
set_option linter.unusedVariables false
set_option linter.unusedSimpArgs false
namespace Go.Eng
noncomputable section
variable {P : Program} {O : Orc}

/-! ### A bit turned -/

end
end Go.Eng
