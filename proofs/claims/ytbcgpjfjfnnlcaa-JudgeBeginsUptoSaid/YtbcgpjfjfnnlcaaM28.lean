/-
  Rows of so many elements: pointers into them, out of which one comes is known at run time alone.
-/
import Derived.Test.YtbcgpjfjfnnlcaaM27
set_option linter.unusedSimpArgs false
set_option linter.unusedVariables false
namespace Go.Eng
noncomputable section
section flat
variable {α : Type} {c : α → List PV} {sz : Nat} (hc : ∀ y, (c y).length = sz)
include hc
end flat

/-! ### Pointers: none; to a row l; to the i-th element of row k -/

section ops
variable {P : Program} {O : Orc} {s : PS} {d : Option Tmp} {ty : TypeId} {pst : String} {af : Array Edge} {gu : Option (Nat × Bool)} {α : Type} {c : α → List PV} {sz l k o e1 e2 : Nat} {z y : α} {S : List α} {p : Option (Option Nat)} {x : Operand}

end ops
section arr
variable {P : Program} {O : Orc} {s : PS} {d : Option Tmp} {ty : TypeId} {pst : String} {af : Array Edge} {gu : Option (Nat × Bool)}
end arr
end
end Go.Eng
