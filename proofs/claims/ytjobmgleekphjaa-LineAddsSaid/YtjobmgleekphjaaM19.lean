/-
  Further rules for what printed walks use.
-/
import Derived.Test.YtjobmgleekphjaaM18
set_option linter.unusedSimpArgs false
set_option linter.unusedVariables false
namespace Go.Eng
noncomputable section
variable {P : Program} {O : FuncId → Option Value} {s : PS}

theorem boolEq_ok {d : Option Tmp} {ty : TypeId} {pst : String} {af : Array Edge} {gu : Option (Nat × Bool)} {op : BinOp} {t t2 : TypeId} {x y : Operand} {a b : Bool} (f : Bool → Bool → Bool) (hx : s.ev x = some (.val (.bool a))) (hy : s.ev y = some (.val (.bool b)))
    (h0 : aBin P op t x y (.bool false) (.bool false) = .ok (.bool (f false false))) (h1 : aBin P op t x y (.bool false) (.bool true) = .ok (.bool (f false true))) (h2 : aBin P op t x y (.bool true) (.bool false) = .ok (.bool (f true false))) (h3 : aBin P op t x y (.bool true) (.bool true) = .ok (.bool (f true true))) : OpSame P O s ⟨d, .binOp op t x y t2, ty, pst, af, gu⟩ (.val (.bool (f a b))) :=
  .mk' rfl fun C e a' H hR => by
    have hv : aBin P op t x y (.bool a) (.bool b) = .ok (.bool (f a b)) := by cases a <;> cases b <;> assumption
    obtain ⟨u, h1, h2⟩ := hR.ev hx
    obtain ⟨w, h3, h4⟩ := hR.ev hy
    have e1 := h2.bool_inv; subst e1
    have e2 := h4.bool_inv; subst e2
    exact ⟨0, .bool (f a b), by simp only [aOp, AAct.ev_eval h1, AAct.ev_eval h3, bind, Except.bind, bothPtr, hv, Bool.false_eq_true, if_false], .val rfl⟩

end
end Go.Eng
