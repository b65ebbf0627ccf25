/-
  Calls put off; parts with three bounds; numbers: shifts, remainders; a text's byte.
-/
import Derived.Test.YtbcgpjfjfnnlcaaM25
set_option linter.unusedSimpArgs false
set_option linter.unusedVariables false
namespace Go.Eng
noncomputable section
variable {P : Program} {O : Orc}

/-! ### A function that puts nothing off itself -/

/-! ### A call is put off -/

/-! ### Operations -/
section ops
variable {rnd : Option Nat} {all os : List Oper} {s : PS} {Q : PS → Prop} {d : Option Tmp} {ty : TypeId} {pst : String} {af : Array Edge} {gu : Option (Nat × Bool)}

theorem aBin_rem {t : TypeId} {x y : Operand} {k : IntKind} {m n : Int} (h : n ≠ 0) : aBin P .rem t x y (.int k m) (.int k n) = .ok (.int k (m.tmod n)) := by
  simp only [aBin, gOnly, binOp, Op.intDiv, pureRun, ne_eq, not_true_eq_false, if_false, if_neg h, pure]
  rfl
theorem rem_ok {t t2 : TypeId} {x y : Operand} {k : IntKind} {m n : Int} (hx : s.ev x = some (.val (.int k m))) (hy : s.ev y = some (.val (.int k n))) (h : n ≠ 0) : OpSame P O s ⟨d, .binOp .rem t x y t2, ty, pst, af, gu⟩ (.val (.int k (m.tmod n))) :=
  .mk' rfl fun C e a H hR => by
    obtain ⟨u, h1, h2⟩ := hR.ev hx
    obtain ⟨w, h3, h4⟩ := hR.ev hy
    have e1 := h2.bool_inv; subst e1
    have e2 := h4.bool_inv; subst e2
    exact ⟨0, .int k (m.tmod n), by simp only [aOp, AAct.ev_eval h1, AAct.ev_eval h3, bind, Except.bind, bothPtr, aBin_rem h, Bool.false_eq_true, if_false], .val rfl⟩

end ops

end
end Go.Eng
