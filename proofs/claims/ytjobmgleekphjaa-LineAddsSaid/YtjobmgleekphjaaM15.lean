/-
  A region whose order is open, where reads and stores lie side by side: what a read tells does not turn by the stores that it need not wait for.
-/
import Derived.Test.YtjobmgleekphjaaM14
set_option linter.unusedSimpArgs false
set_option linter.unusedVariables false
namespace Go.Eng
noncomputable section
variable {P : Program} {O : FuncId → Option Value}

/-- may the region be gone through in this order, but for what reads tell? -/
def PV.okd : PV → Bool
  | .val v => (match v with | .bool _ => true | .int _ _ => true | .string _ => true | .pointer _ => true | .slice _ _ _ => true | .nilFunc => true | .nilIface => true | .map _ => true | _ => false)
  | .list _ _ _ => true
  | .ptr _ _ => true
  | .eptr _ _ => true
  | .sl _ _ _ _ => true
  | _ => false
def PV.okd2 : PV → Bool
  | .agg l => l.all PV.okd
  | p => p.okd

theorem okd_veq {e : Env} {tk : List Nat} {H : AH} {b : Bool} {p : PV} {v : Value} (h : RV e tk H b p v) (hp : p.okd = true) (n : Nat) : veq n v v = true := by
  cases p with
  | val u =>
    rw [h.bool_inv]
    cases u <;> first | (cases hp; done) | simp [veq]
  | list sz l t => obtain ⟨a, c, rfl⟩ := len_slice h; simp [veq]
  | ptr k off => cases h; simp [veq]
  | eptr c o => cases h; simp [veq]
  | sl k o n c => cases h; simp [veq]
  | _ => cases hp

theorem okd2_veq {e : Env} {tk : List Nat} {H : AH} {b : Bool} {p : PV} {v : Value} (h : RV e tk H b p v) (hp : p.okd2 = true) : veq 3 v v = true := by
  cases p with
  | agg l =>
    cases h with
    | @agg _ _ vs hl hh =>
      have key : (vs.zip vs).all (fun (x, y) => veq 2 x y) = true := by
        rw [List.all_eq_true]
        rintro ⟨x, y⟩ hx
        obtain ⟨i, hi, hxy⟩ := List.mem_iff_getElem.1 hx
        simp only [List.getElem_zip, Prod.mk.injEq] at hxy
        obtain ⟨rfl, rfl⟩ := hxy
        have hi' : i < vs.length := by simpa using hi
        obtain ⟨q, hq⟩ := get_of_lt (l := l) (i := i) (by rw [hl]; exact hi')
        exact okd_veq (hh i q _ hq (List.getElem?_eq_getElem hi')) (List.all_eq_true.1 hp q (List.mem_of_getElem? hq)) 2
      simp only [veq, beq_self_eq_true, Bool.true_and]
      exact key
  | _ => exact okd_veq h hp 3

theorem do_free {rec : Rec} {os : List Oper} {a : AAct} {H : AH} {o : Oper} (hg : o.guard = none) : aDo P rec os a H o = aOp P rec a H o := by
  unfold aDo
  rw [wanted_free hg]
  rfl

theorem aLoad_same {H M : AH} {t : TypeId} {id off : Nat} (h : M.get id = H.get id) : aLoad P M t id off = aLoad P H t id off := by
  unfold aLoad AH.row
  rw [h]

theorem RelA.put {C : Ctx} {e : Env} {s : PS} {a : AAct} {H : AH} (hR : RelA C e s a H) {d : Option Tmp} {v : Value} (h : s.can d = true) : a.put d v = .ok (a.upd d v) := AAct.put_can (hR.can h)


end
end Go.Eng
