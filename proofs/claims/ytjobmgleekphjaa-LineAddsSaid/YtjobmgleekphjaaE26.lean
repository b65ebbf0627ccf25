/-
  The calculus' rule for a store into a row of one's own.
-/
import Derived.Test.YtjobmgleekphjaaE24
set_option linter.unusedSimpArgs false
set_option linter.unusedVariables false
namespace Go.Eng
noncomputable section
variable {P : Program} {O : FuncId → Option Value}

/-- a row with known values laid over some of its cells -/
def Row.over (r : Row) (off : Nat) (vs : List Value) : Row := { r with cells := spliceL r.cells off (vs.map some) }

theorem write_solo {H : AH} {id off : Nat} {r : Row} {vs : List Value} (hr : H.get id = some (.row r)) (hro : r.ro = false) (hs : r.solo = true) (hp : vs.all plainCell = true) (hl : off + vs.length ≤ r.cells.length) : H.write id off vs = .ok (H.set id (.row (r.over off vs))) := by
  unfold AH.write
  have hrow : H.row id = .ok r := by unfold AH.row; rw [hr]
  simp only [hrow, bind, Except.bind, hro, hp, hs, Bool.false_eq_true, if_false, Bool.not_true, if_true]
  rw [if_pos hl]
  have e : ({ cells := spliceL r.cells off (vs.map some), ty := r.ty, fam := r.fam, disp := r.disp, esz := r.esz, ro := false, solo := true } : Row) = r.over off vs := by
    unfold Row.over; rw [← hro, ← hs]
  rw [e]

section ops
variable {rnd : Option Nat} {all os : List Oper} {a : AAct} {H : AH} {Q : AAct → AH → Prop} {d : Option Tmp} {ty : TypeId} {ps : String} {af : Array Edge} {gu : Option (Nat × Bool)}

theorem WO.store {t : TypeId} {x y : Operand} {id off n : Nat} {r : Row} {v : Value} (hw : aWanted all a ⟨d, .store t x y, ty, ps, af, gu⟩ = .ok true) (hx : a.ev x = some (.pointer (some ⟨id, off, none⟩))) (hy : a.ev y = some v) (hn : tSize P t = .ok n) (hv : v.cells.size = n)
    (hr : H.get id = some (.row r)) (hro : r.ro = false) (hs : r.solo = true) (hp : v.cells.toList.all plainCell = true) (hl : off + v.cells.toList.length ≤ r.cells.length) (hc : a.can d = true)
    (h : WO P O rnd all os (a.upd d undef) (H.set id (.row (r.over off v.cells.toList))) Q) : WO P O rnd all (⟨d, .store t x y, ty, ps, af, gu⟩ :: os) a H Q := by
  refine WO.one hw rfl ⟨0, ?_⟩ hc h
  simp only [aOp, AAct.ev_eval hx, AAct.ev_eval hy, bind, Except.bind, addrOf, hn, hv, if_true, write_solo hr hro hs hp hl]
end ops

end
end Go.Eng
