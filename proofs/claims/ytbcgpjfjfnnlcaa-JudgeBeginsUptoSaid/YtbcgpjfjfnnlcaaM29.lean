/-
  States with rows of so many elements: nothing is left out, or what is left out is shown row by row.
-/
import Derived.Test.YtbcgpjfjfnnlcaaM28
set_option linter.unusedSimpArgs false
set_option linter.unusedVariables false
namespace Go.Eng
noncomputable section
variable {P : Program} {O : Orc}

/-! ### Temporaries alone are left out -/

theorem mo_nil {α β : Type} {f : α → Option β} : mapO f [] = some [] := rfl
theorem mo_cons {α β : Type} {f : α → Option β} {x : α} {y : β} {l : List α} {m : List β} (h : f x = some y) (hl : mapO f l = some m) : mapO f (x :: l) = some (y :: m) := by simp only [mapO, h, hl]

/-! ### Where a function ends -/

/-! ### Pointers that lead into the row alone, or nowhere -/
section
variable {s : PS} {d : Option Tmp} {ty : TypeId} {pst : String} {af : Array Edge} {gu : Option (Nat × Bool)} {α : Type} {c : α → List PV} {sz l k o e1 e2 : Nat} {z y : α} {S : List α} {e : Option Nat} {x : Operand}
end
end
end Go.Eng
