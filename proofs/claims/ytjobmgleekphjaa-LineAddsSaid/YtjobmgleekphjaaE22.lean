/-
  The calculus' rules for single operations.
-/
import Derived.Test.YtjobmgleekphjaaE21
set_option linter.unusedSimpArgs false
set_option linter.unusedVariables false
namespace Go.Eng
noncomputable section
variable {P : Program} {O : FuncId → Option Value}

/-- what two whole numbers come to -/
def binV (op : BinOp) (k : IntKind) (m n : Int) : Option Value :=
  match op with
  | .add => some (.int k (k.wrap (m + n)))
  | .sub => some (.int k (k.wrap (m - n)))
  | .mul => some (.int k (k.wrap (m * n)))
  | .eql => some (.bool (m == n))
  | .neq => some (.bool (m != n))
  | .lss => some (.bool (decide (m < n)))
  | .leq => some (.bool (decide (m ≤ n)))
  | .gtr => some (.bool (decide (m > n)))
  | .geq => some (.bool (decide (m ≥ n)))
  | _ => none

def AH.push (H : AH) (r : Row) : AH := ⟨T.put (Nat.succ H.next) H.objs H.next (.row r), Nat.succ H.next⟩

theorem AH.push_next (H : AH) (r : Row) : (H.push r).next = H.next + 1 := rfl
theorem AH.get_push {H : AH} {r : Row} (j : Nat) : (H.push r).get j = if j = H.next then some (.row r) else H.get j :=
  T.get_put' _ _ _ _
theorem AH.new_push {H : AH} {r : Row} : H.new (.row r) = .ok (H.next, H.push r) := by
  obtain ⟨t, n⟩ := H
  rfl

section ops
variable {rnd : Option Nat} {all os : List Oper} {a : AAct} {H : AH} {Q : AAct → AH → Prop} {d : Option Tmp} {ty : TypeId} {ps : String} {af : Array Edge} {gu : Option (Nat × Bool)}

theorem WO.move {x : Operand} {v : Value} (hw : aWanted all a ⟨d, .move x, ty, ps, af, gu⟩ = .ok true) (hx : a.ev x = some v) (hc : a.can d = true) (h : WO P O rnd all os (a.upd d v) H Q) : WO P O rnd all (⟨d, .move x, ty, ps, af, gu⟩ :: os) a H Q :=
  WO.one hw rfl ⟨0, by simp only [aOp, AAct.ev_eval hx]; rfl⟩ hc h

theorem WO.assign {x : Operand} {v : Value} (hw : aWanted all a ⟨d, .assign x, ty, ps, af, gu⟩ = .ok true) (hx : a.ev x = some v) (hc : a.can d = true) (h : WO P O rnd all os (a.upd d v) H Q) : WO P O rnd all (⟨d, .assign x, ty, ps, af, gu⟩ :: os) a H Q :=
  WO.one hw rfl ⟨0, by simp only [aOp, AAct.ev_eval hx]; rfl⟩ hc h

theorem binV_ok {op : BinOp} {k : IntKind} {m n : Int} {v : Value} (h : binV op k m n = some v) (t : TypeId) : gOnly (pureRun P 0 (Go.binOp op t (.int k m) (.int k n))) = .ok v := by
  cases op <;> simp only [binV] at h <;> first | (cases h; done) | (cases h; simp [Go.binOp, Op.intArith, Op.intCmp, pureRun, gOnly, gnd, pure]; done) | (cases h; simp only [Go.binOp, Op.intArith, Op.intCmp, ne_eq, not_true_eq_false, if_false]; rfl)

theorem WO.bin {op : BinOp} {t t2 : TypeId} {x y : Operand} {k : IntKind} {m n : Int} {v : Value} (hw : aWanted all a ⟨d, .binOp op t x y t2, ty, ps, af, gu⟩ = .ok true) (hx : a.ev x = some (.int k m)) (hy : a.ev y = some (.int k n)) (hv : binV op k m n = some v) (hc : a.can d = true)
    (h : WO P O rnd all os (a.upd d v) H Q) : WO P O rnd all (⟨d, .binOp op t x y t2, ty, ps, af, gu⟩ :: os) a H Q := by
  refine WO.one hw rfl ⟨0, ?_⟩ hc h
  simp only [aOp, AAct.ev_eval hx, AAct.ev_eval hy, bind, Except.bind, bothPtr, aBin, binV_ok hv, Bool.false_eq_true, if_false]

theorem WO.binAgg {op : BinOp} {t t2 : TypeId} {x y : Operand} {xs ys : Array Value} {v : Value} (hw : aWanted all a ⟨d, .binOp op t x y t2, ty, ps, af, gu⟩ = .ok true) (hx : a.ev x = some (.agg xs)) (hy : a.ev y = some (.agg ys)) (hg : gnd gd (.agg xs) = true) (hg2 : gnd gd (.agg ys) = true) (hv : aEq P op t (.agg xs) (.agg ys) = .ok v) (hc : a.can d = true)
    (h : WO P O rnd all os (a.upd d v) H Q) : WO P O rnd all (⟨d, .binOp op t x y t2, ty, ps, af, gu⟩ :: os) a H Q := by
  refine WO.one hw rfl ⟨0, ?_⟩ hc h
  simp only [aOp, AAct.ev_eval hx, AAct.ev_eval hy, bind, Except.bind, bothPtr, aBin, hv, hg, hg2, Bool.and_true, if_true, Bool.false_eq_true, if_false]

theorem WO.not_ {t : TypeId} {x : Operand} {b : Bool} (hw : aWanted all a ⟨d, .unOp .not t x, ty, ps, af, gu⟩ = .ok true) (hx : a.ev x = some (.bool b)) (hc : a.can d = true) (h : WO P O rnd all os (a.upd d (.bool !b)) H Q) : WO P O rnd all (⟨d, .unOp .not t x, ty, ps, af, gu⟩ :: os) a H Q := by
  refine WO.one hw rfl ⟨0, ?_⟩ hc h
  simp only [aOp, AAct.ev_eval hx, bind, Except.bind]
  rfl

theorem WO.pickT {c x y : Operand} {b : Bool} {v : Value} (hw : aWanted all a ⟨d, .pick c x y, ty, ps, af, gu⟩ = .ok true) (hb : a.ev c = some (.bool b)) (ht : b = true) (hx : a.ev x = some v) (hc : a.can d = true) (h : WO P O rnd all os (a.upd d v) H Q) : WO P O rnd all (⟨d, .pick c x y, ty, ps, af, gu⟩ :: os) a H Q := by
  refine WO.one hw rfl ⟨0, ?_⟩ hc h
  subst ht
  simp only [aOp, AAct.ev_eval hb, AAct.ev_eval hx, bind, Except.bind, if_true]
theorem WO.pickF {c x y : Operand} {b : Bool} {v : Value} (hw : aWanted all a ⟨d, .pick c x y, ty, ps, af, gu⟩ = .ok true) (hb : a.ev c = some (.bool b)) (ht : b = false) (hx : a.ev y = some v) (hc : a.can d = true) (h : WO P O rnd all os (a.upd d v) H Q) : WO P O rnd all (⟨d, .pick c x y, ty, ps, af, gu⟩ :: os) a H Q := by
  refine WO.one hw rfl ⟨0, ?_⟩ hc h
  subst ht
  simp only [aOp, AAct.ev_eval hb, AAct.ev_eval hx, bind, Except.bind, Bool.false_eq_true, if_false]

theorem WO.len {x : Operand} {t e : TypeId} {p : Option Addr} {n c : Nat} (hw : aWanted all a ⟨d, .call ⟨.builtin .len, #[x], #[t]⟩, ty, ps, af, gu⟩ = .ok true) (ht : P.underlying t = some (.slice e)) (hx : a.ev x = some (.slice p n c)) (hc : a.can d = true) (h : WO P O rnd all os (a.upd d (.int .i64 n)) H Q) :
    WO P O rnd all (⟨d, .call ⟨.builtin .len, #[x], #[t]⟩, ty, ps, af, gu⟩ :: os) a H Q := by
  refine WO.one hw rfl ⟨0, ?_⟩ hc h
  simp only [aOp, allR, AAct.ev_eval hx, bind, Except.bind, aLen, ht]

theorem WO.lenStr {x : Operand} {t : TypeId} {s : ByteArray} (hw : aWanted all a ⟨d, .call ⟨.builtin .len, #[x], #[t]⟩, ty, ps, af, gu⟩ = .ok true) (ht : P.underlying t = some .string) (hx : a.ev x = some (.string s)) (hc : a.can d = true) (h : WO P O rnd all os (a.upd d (.int .i64 s.size)) H Q) :
    WO P O rnd all (⟨d, .call ⟨.builtin .len, #[x], #[t]⟩, ty, ps, af, gu⟩ :: os) a H Q := by
  refine WO.one hw rfl ⟨0, ?_⟩ hc h
  simp only [aOp, allR, AAct.ev_eval hx, bind, Except.bind, aLen, ht]

theorem WO.max {x y : Operand} {ts : Array TypeId} {k : IntKind} {m n : Int} (hw : aWanted all a ⟨d, .call ⟨.builtin .max, #[x, y], ts⟩, ty, ps, af, gu⟩ = .ok true) (hx : a.ev x = some (.int k m)) (hy : a.ev y = some (.int k n)) (hc : a.can d = true) (h : WO P O rnd all os (a.upd d (.int k (if n > m then n else m))) H Q) :
    WO P O rnd all (⟨d, .call ⟨.builtin .max, #[x, y], ts⟩, ty, ps, af, gu⟩ :: os) a H Q := by
  refine WO.one hw rfl ⟨0, ?_⟩ hc h
  simp only [aOp, allR, AAct.ev_eval hx, AAct.ev_eval hy, bind, Except.bind]
  rfl
theorem WO.min {x y : Operand} {ts : Array TypeId} {k : IntKind} {m n : Int} (hw : aWanted all a ⟨d, .call ⟨.builtin .min, #[x, y], ts⟩, ty, ps, af, gu⟩ = .ok true) (hx : a.ev x = some (.int k m)) (hy : a.ev y = some (.int k n)) (hc : a.can d = true) (h : WO P O rnd all os (a.upd d (.int k (if n < m then n else m))) H Q) :
    WO P O rnd all (⟨d, .call ⟨.builtin .min, #[x, y], ts⟩, ty, ps, af, gu⟩ :: os) a H Q := by
  refine WO.one hw rfl ⟨0, ?_⟩ hc h
  simp only [aOp, allR, AAct.ev_eval hx, AAct.ev_eval hy, bind, Except.bind]
  rfl

theorem natIn_mk {k : IntKind} {m : Int} {most : Nat} (h : 0 ≤ m ∧ m ≤ most) : natIn (.int k m) most = .ok m.toNat := by
  simp only [natIn]
  rw [if_pos h]

theorem WO.indexAddr {t e : TypeId} {x i : Operand} {id off n c sz : Nat} {k : IntKind} {m : Int} (hw : aWanted all a ⟨d, .indexAddr t x i, ty, ps, af, gu⟩ = .ok true) (ht : P.underlying t = some (.slice e)) (hs : tSize P e = .ok sz) (hx : a.ev x = some (.slice (some ⟨id, off, none⟩) n c)) (hi : a.ev i = some (.int k m)) (hm : 0 ≤ m ∧ m < n) (hc : a.can d = true)
    (h : WO P O rnd all os (a.upd d (.pointer (some ⟨id, off + m.toNat * sz, none⟩))) H Q) : WO P O rnd all (⟨d, .indexAddr t x i, ty, ps, af, gu⟩ :: os) a H Q := by
  refine WO.one hw rfl ⟨0, ?_⟩ hc h
  have h1 : m.toNat < n := by omega
  simp only [aOp, AAct.ev_eval hx, AAct.ev_eval hi, bind, Except.bind, ht, natIn_mk (show 0 ≤ m ∧ m ≤ ((n - 1 : Nat) : Int) by omega), hs]
  rw [if_pos h1]

theorem WO.fieldAddr {t : TypeId} {x : Operand} {f : Nat} {fs : Array Field} {fd : Field} {id off sz : Nat} (hw : aWanted all a ⟨d, .fieldAddr t x f, ty, ps, af, gu⟩ = .ok true) (ht : P.underlying t = some (.struct fs)) (hf : fs[f]? = some fd) (hs : tSize P fd.type = .ok sz) (hz : Nat.beq sz 0 = false) (hx : a.ev x = some (.pointer (some ⟨id, off, none⟩))) (hc : a.can d = true)
    (h : WO P O rnd all os (a.upd d (.pointer (some ⟨id, off + fd.offset, none⟩))) H Q) : WO P O rnd all (⟨d, .fieldAddr t x f, ty, ps, af, gu⟩ :: os) a H Q := by
  refine WO.one hw rfl ⟨0, ?_⟩ hc h
  have h1 : ¬ sz = 0 := fun e => by subst e; cases hz
  simp only [aOp, AAct.ev_eval hx, bind, Except.bind, ht, hf, hs, addrOf]
  rw [if_neg h1]

theorem WO.load {t : TypeId} {x : Operand} {id off : Nat} {r : Row} {v : Value} (hw : aWanted all a ⟨d, .load t x, ty, ps, af, gu⟩ = .ok true) (hx : a.ev x = some (.pointer (some ⟨id, off, none⟩))) (hg : tAgg P t = .ok false) (hr : H.get id = some (.row r)) (hv : r.cells[off]? = some (some v)) (hc : a.can d = true)
    (h : WO P O rnd all os (a.upd d v) H Q) : WO P O rnd all (⟨d, .load t x, ty, ps, af, gu⟩ :: os) a H Q := by
  refine WO.one hw rfl ⟨0, ?_⟩ hc h
  simp only [aOp, AAct.ev_eval hx, bind, Except.bind, addrOf, aLoad, AH.row, hr, hg, Bool.false_eq_true, if_false, hv]

theorem WO.loadAgg {t : TypeId} {x : Operand} {id off n : Nat} {r : Row} {cs : List Value} (hw : aWanted all a ⟨d, .load t x, ty, ps, af, gu⟩ = .ok true) (hx : a.ev x = some (.pointer (some ⟨id, off, none⟩))) (hg : tAgg P t = .ok true) (hs : tSize P t = .ok n) (hr : H.get id = some (.row r)) (hv : takeK (r.cells.drop off) n = .ok cs) (hc : a.can d = true)
    (h : WO P O rnd all os (a.upd d (.agg cs.toArray)) H Q) : WO P O rnd all (⟨d, .load t x, ty, ps, af, gu⟩ :: os) a H Q := by
  refine WO.one hw rfl ⟨0, ?_⟩ hc h
  simp only [aOp, AAct.ev_eval hx, bind, Except.bind, addrOf, aLoad, AH.row, hr, hg, if_true, hs, hv]

theorem WO.box {t : TypeId} {x : Operand} {v : Value} (hw : aWanted all a ⟨d, .box t x, ty, ps, af, gu⟩ = .ok true) (hx : a.ev x = some v) (hc : a.can d = true)
    (h : WO P O rnd all os (a.upd d (.pointer (some ⟨H.next, 0, none⟩))) (H.push { cells := v.cells.toList.map some, ty := t, fam := H.next, disp := 0, esz := 0, ro := false, solo := true }) Q) : WO P O rnd all (⟨d, .box t x, ty, ps, af, gu⟩ :: os) a H Q := by
  refine WO.one hw rfl ⟨0, ?_⟩ hc h
  simp only [aOp, AAct.ev_eval hx, bind, Except.bind, newRow, AH.new_push]

theorem WO.extract {x : Operand} {i : Nat} {vs : Array Value} {v : Value} (hw : aWanted all a ⟨d, .extract x i, ty, ps, af, gu⟩ = .ok true) (hx : a.ev x = some (.tuple vs)) (hv : vs.toList[i]? = some v) (hc : a.can d = true) (h : WO P O rnd all os (a.upd d v) H Q) : WO P O rnd all (⟨d, .extract x i, ty, ps, af, gu⟩ :: os) a H Q := by
  refine WO.one hw rfl ⟨0, ?_⟩ hc h
  simp only [aOp, AAct.ev_eval hx, bind, Except.bind, hv]

theorem evs_nil : allR a.eval [] = .ok [] := rfl
theorem evs_cons {x : Operand} {xs : List Operand} {v : Value} {vs : List Value} (hx : a.ev x = some v) (h : allR a.eval xs = .ok vs) : allR a.eval (x :: xs) = .ok (v :: vs) := by
  simp only [allR, AAct.ev_eval hx, h, bind, Except.bind]

theorem wanted_yes {o : Oper} {j : Nat} {w b : Bool} {t : Tmp} (h : o.guard = some (j, w)) (hd : (all[j]?).bind (·.dst) = some t) (hl : Nat.ble (Nat.succ t) a.n = true) (hg : a.tm.get t = some (.bool b)) (hb : b = w) : aWanted all a o = .ok true := by
  rw [wanted_when h hd hl hg, hb]; cases w <;> rfl
theorem wanted_no {o : Oper} {j : Nat} {w b : Bool} {t : Tmp} (h : o.guard = some (j, w)) (hd : (all[j]?).bind (·.dst) = some t) (hl : Nat.ble (Nat.succ t) a.n = true) (hg : a.tm.get t = some (.bool b)) (hb : b = !w) : aWanted all a o = .ok false := by
  rw [wanted_when h hd hl hg, hb]; cases w <;> rfl

theorem WO.split {t : Nat} {b : Bool} (_hg : a.tm.get t = some (.bool b)) (ht : b = true → WO P O rnd all os a H Q) (hf : b = false → WO P O rnd all os a H Q) : WO P O rnd all os a H Q := by
  cases b with
  | true => exact ht rfl
  | false => exact hf rfl

theorem get_push_new {r : Row} : (H.push r).get H.next = some (.row r) := by rw [AH.get_push, if_pos rfl]
theorem res1 {t : Nat} {v : Value} (h : a.tm.get t = some v) : aResults P H a [.tmp t] = .ok v := by
  simp only [aResults, allR, h]; rfl
theorem res2 {t u : Nat} {v w : Value} (h : a.tm.get t = some v) (h' : a.tm.get u = some w) : aResults P H a [.tmp t, .tmp u] = .ok (.tuple #[v, w]) := by
  simp only [aResults, allR, h, h']; rfl

end ops


/-! ### Where paths meet -/
section meet
variable {rnd : Option Nat} {a : AAct} {H : AH} {Q : AX → AAct → AH → Prop}
def joinK (J : AAct → AH → Prop) (Q : AX → AAct → AH → Prop) : AX → AAct → AH → Prop
  | .normal, a, H => J a H
  | x, a, H => Q x a H

theorem WC.join {x z : Code} (J : AAct → AH → Prop) (h1 : WC P O rnd (.seq x .skip) a H (joinK J Q)) (h2 : ∀ a1 H1, J a1 H1 → WC P O rnd z a1 H1 Q) : WC P O rnd (.seq x z) a H Q := by
  refine WC.seq ((WC.lone h1).mono fun e a1 H1 hq => ?_)
  cases e with
  | normal => exact h2 a1 H1 hq
  | _ => exact hq

theorem joinK.end {J : AAct → AH → Prop} (h : J a H) : joinK J Q .normal a H := h
theorem joinK.ret {J : AAct → AH → Prop} (h : Q .ret a H) : joinK J Q .ret a H := h
theorem joinK.exit {J : AAct → AH → Prop} {i : Nat} (h : Q (.exit i) a H) : joinK J Q (.exit i) a H := h
theorem loopK.end {I : Nat → AAct → AH → Prop} {k k' : Nat} (hk : k' < k) (h : I k' a H) : loopK I k Q .normal a H := ⟨k', hk, h⟩
theorem WC.loopE {x : Code} (I : Nat → AAct → AH → Prop) (hI : ∀ k a H, I k a H → WC P O rnd x a H (loopK I k Q)) (h : ∃ k, I k a H) : WC P O rnd (.loop x) a H Q :=
  let ⟨k, hk⟩ := h; WC.loop I hI k hk
theorem loopK.mkE {I : Nat → AAct → AH → Prop} {k : Nat} (h : ∃ k', I k' a H ∧ k' < k) : loopK I k Q .normal a H := let ⟨k', h1, h2⟩ := h; ⟨k', h2, h1⟩
theorem loopK.mk {I : Nat → AAct → AH → Prop} {k k' : Nat} (h : I k' a H) (hk : k' < k) : loopK I k Q .normal a H := ⟨k', hk, h⟩
theorem loopK.ret {I : Nat → AAct → AH → Prop} {k : Nat} (h : Q .ret a H) : loopK I k Q .ret a H := h
theorem loopK.exit {I : Nat → AAct → AH → Prop} {k i : Nat} (h : Q (.exit i) a H) : loopK I k Q (.exit i) a H := h
end meet

end
end Go.Eng
