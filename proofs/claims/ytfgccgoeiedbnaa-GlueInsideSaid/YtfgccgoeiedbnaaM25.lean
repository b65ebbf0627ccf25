/-
  A call that writes a list of one's own over: what lies in rows of elements of another size stays.
-/
import Derived.Test.YtfgccgoeiedbnaaM24
set_option linter.unusedVariables false
set_option linter.unusedSimpArgs false
namespace Go.Eng
noncomputable section
variable {P : Program} {O : FuncId → Option Value}

/-- a family's rows may know other cells -/
structure Havoc (F : Nat) (H H' : AH) : Prop where
  next : H'.next = H.next
  oth : ∀ (j : Nat) (o : AO), H.get j = some o → (∀ r, o = .row r → r.fam ≠ F) → H'.get j = some o
  fam : ∀ (j : Nat) (r : Row), H.get j = some (.row r) → r.fam = F → ∃ r', H'.get j = some (.row r') ∧ Meta r r' ∧ r'.solo = r.solo
  gone : ∀ (j : Nat), H.get j = none → H'.get j = none

/-! ### What stays -/

end
end Go.Eng
