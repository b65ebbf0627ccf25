/-
  A calculus for runs of the abstract machine whose values are not known: what is asked behind it, carried ahead of it.
-/
import Derived.Test.YtbcgpjfjfnnlcaaE20
set_option linter.unusedSimpArgs false
set_option linter.unusedVariables false
namespace Go.Eng
noncomputable section
variable {P : Program} {O : Orc}

/-! ### Runs -/
def WC (P : Program) (O : Orc) (rnd : Option Nat) (c : Code) (a : AAct) (H : AH) (Q : AX → AAct → AH → Prop) : Prop :=
  ∃ n x a' H', oRun P O n (.code rnd c a) H = .ok (.out x a', H') ∧ Q x a' H'
def WO (P : Program) (O : Orc) (rnd : Option Nat) (all os : List Oper) (a : AAct) (H : AH) (Q : AAct → AH → Prop) : Prop :=
  ∃ n a' H', aOps P (oRun P O n) rnd all os a H = .ok (a', H') ∧ Q a' H'
def WF1 (P : Program) (O : Orc) (f : FuncId) (vs : List Value) (H : AH) (Q : Value → AH → Prop) : Prop :=
  ∃ n v H', oRun P O n (.call f vs) H = .ok (.val v, H') ∧ Q v H'

theorem WC.mono {rnd : Option Nat} {c : Code} {a : AAct} {H : AH} {Q Q' : AX → AAct → AH → Prop} (h : WC P O rnd c a H Q) (hq : ∀ x a H, Q x a H → Q' x a H) : WC P O rnd c a H Q' :=
  let ⟨n, x, a', H', h1, h2⟩ := h; ⟨n, x, a', H', h1, hq _ _ _ h2⟩
theorem WF1.mono {f : FuncId} {vs : List Value} {H : AH} {Q Q' : Value → AH → Prop} (h : WF1 P O f vs H Q) (hq : ∀ v H, Q v H → Q' v H) : WF1 P O f vs H Q' :=
  let ⟨n, v, H', h1, h2⟩ := h; ⟨n, v, H', h1, hq _ _ h2⟩

theorem run_up {n m : Nat} (h : n ≤ m) {q : Req} {H : AH} {x : Res × AH} (hr : oRun P O n q H = .ok x) : oRun P O m q H = .ok x := oRun_le h q H x hr

theorem ops_up {n m : Nat} (h : n ≤ m) {rnd : Option Nat} {all os : List Oper} {a : AAct} {H : AH} {x : AAct × AH} (hr : aOps P (oRun P O n) rnd all os a H = .ok x) : aOps P (oRun P O m) rnd all os a H = .ok x :=
  aOps_mono (oRun_le h) _ _ _ _ hr

section code
variable {rnd : Option Nat} {a : AAct} {H : AH} {Q : AX → AAct → AH → Prop}

theorem WC.skip (h : Q .normal a H) : WC P O rnd .skip a H Q := ⟨1, .normal, a, H, rfl, h⟩

/-- what is asked behind the first of two -/
def andThen (P : Program) (O : Orc) (rnd : Option Nat) (z : Code) (Q : AX → AAct → AH → Prop) : AX → AAct → AH → Prop
  | .normal, a, H => WC P O rnd z a H Q
  | x, a, H => Q x a H

theorem WC.seq {x z : Code} (h : WC P O rnd x a H (andThen P O rnd z Q)) : WC P O rnd (.seq x z) a H Q := by
  obtain ⟨n, e, a1, H1, h1, h2⟩ := h
  cases e with
  | normal =>
    obtain ⟨m, e2, a2, H2, h3, h4⟩ := h2
    refine ⟨max n m + 1, e2, a2, H2, ?_, h4⟩
    simp only [oRun, aStep, run_up (Nat.le_max_left n m) h1]
    show oRun P O (max n m) (.code rnd z a1) H1 = _
    exact run_up (Nat.le_max_right n m) h3
  | exit id => exact ⟨n + 1, _, a1, H1, by simp only [oRun, aStep, h1]; rfl, h2⟩
  | goto l => exact ⟨n + 1, _, a1, H1, by simp only [oRun, aStep, h1]; rfl, h2⟩
  | ret => exact ⟨n + 1, _, a1, H1, by simp only [oRun, aStep, h1]; rfl, h2⟩

theorem WC.assoc {x y z : Code} (h : WC P O rnd (.seq x (.seq y z)) a H Q) : WC P O rnd (.seq (.seq x y) z) a H Q := by
  have hx : ∀ {n : Nat} {c1 c2 : Code} {e : AX} {a2 : AAct} {H2 : AH}, oRun P O (n + 1) (.code rnd (.seq c1 c2) a) H = .ok (.out e a2, H2) → ∃ e1 a1 H1, oRun P O n (.code rnd c1 a) H = .ok (.out e1 a1, H1) ∧ (e1 = .normal → oRun P O n (.code rnd c2 a1) H1 = .ok (.out e a2, H2)) ∧ (e1 ≠ .normal → e1 = e ∧ a1 = a2 ∧ H1 = H2) := by
    intro n c1 c2 e a2 H2 h
    simp only [oRun, aStep] at h
    obtain ⟨⟨res, H1⟩, h1, h2⟩ := bok h
    cases res with
    | val v => cases h2
    | out e1 a1 =>
      refine ⟨e1, a1, H1, h1, fun e => ?_, fun e => ?_⟩
      · subst e; exact h2
      · cases e1 with
        | normal => exact absurd rfl e
        | _ => cases h2; exact ⟨rfl, rfl, rfl⟩
  obtain ⟨n, e, a2, H2, h1, h2⟩ := h
  cases n with
  | zero => simp only [oRun] at h1; cases h1
  | succ n =>
    obtain ⟨e1, a1, H1, g1, g2, g3⟩ := hx h1
    refine WC.seq (WC.seq ⟨n, e1, a1, H1, g1, ?_⟩)
    cases e1 with
    | normal =>
      have g4 := g2 rfl
      cases n with
      | zero => simp only [oRun] at g4; cases g4
      | succ n =>
        simp only [oRun, aStep] at g4
        obtain ⟨⟨res, H3⟩, k1, k2⟩ := bok g4
        cases res with
        | val v => cases k2
        | out e3 a3 =>
          refine ⟨n, e3, a3, H3, k1, ?_⟩
          cases e3 with
          | normal => exact ⟨n, e, a2, H2, k2, h2⟩
          | _ => cases k2; exact h2
    | _ =>
      obtain ⟨rfl, rfl, rfl⟩ := g3 (by intro h; cases h)
      exact h2

theorem WC.lone {x : Code} (h : WC P O rnd (.seq x .skip) a H Q) : WC P O rnd x a H Q := by
  obtain ⟨n, e, a2, H2, h1, h2⟩ := h
  cases n with
  | zero => simp only [oRun] at h1; cases h1
  | succ n =>
    simp only [oRun, aStep] at h1
    obtain ⟨⟨res, H1⟩, k1, k2⟩ := bok h1
    cases res with
    | val v => cases k2
    | out e1 a1 =>
      cases e1 with
      | normal =>
        cases n with
        | zero => simp only [oRun] at k1; cases k1
        | succ n =>
          simp only [oRun, aStep] at k2
          cases k2
          exact ⟨n + 1, .normal, _, _, k1, h2⟩
      | _ => cases k2; exact ⟨n, _, _, _, k1, h2⟩

theorem WC.region {i : Nat} {ops : Array Oper} {z : Code} (h : WO P O rnd ops.toList ops.toList a H (fun a1 H1 => WC P O rnd z a1 H1 Q)) : WC P O rnd (.seq (.region i ops false) z) a H Q := by
  obtain ⟨n, a1, H1, h1, h2⟩ := h
  refine WC.seq ⟨n + 1, .normal, a1, H1, ?_, h2⟩
  simp only [oRun, aStep, h1]
  rfl

theorem WC.noop {z : Code} (h : WC P O rnd z a H Q) : WC P O rnd (.seq .skip z) a H Q := WC.seq ⟨1, .normal, a, H, rfl, h⟩
theorem WC.ret {z : Code} (h : Q .ret a H) : WC P O rnd (.seq .ret z) a H Q := WC.seq ⟨1, .ret, a, H, rfl, h⟩
theorem WC.ret' (h : Q .ret a H) : WC P O rnd .ret a H Q := ⟨1, .ret, a, H, rfl, h⟩
theorem WC.exit {id : Nat} {z : Code} (h : Q (.exit id) a H) : WC P O rnd (.seq (.exit id) z) a H Q := WC.seq ⟨1, .exit id, a, H, rfl, h⟩

/-- a value, as an operand stands for it -/
def AAct.ev (a : AAct) : Operand → Option Value
  | .tmp t => a.tm.get t
  | .const v => pick (gnd gd v) (some v) none
  | .func f => some (.func (.func f) #[] #[])
  | .global _ => none

theorem AAct.ev_eval {o : Operand} {v : Value} (h : a.ev o = some v) : a.eval o = .ok v := by
  cases o with
  | tmp t => simp only [AAct.ev] at h; simp only [AAct.eval, h]; rfl
  | const u =>
    simp only [AAct.ev] at h
    simp only [AAct.eval]
    cases hg : gnd gd u with
    | true => rw [hg] at h; cases h; rfl
    | false => rw [hg] at h; cases h
  | func f => simp only [AAct.ev] at h; cases h; rfl
  | global g => cases h

theorem WC.cond {o : Operand} {x y z : Code} {b : Bool} (ho : a.ev o = some (.bool b)) (ht : b = true → WC P O rnd (.seq x z) a H Q) (hf : b = false → WC P O rnd (.seq y z) a H Q) : WC P O rnd (.seq (.cond o x y) z) a H Q := by
  have he := AAct.ev_eval ho
  have key : ∀ c, WC P O rnd (.seq c z) a H Q → (if b then x else y) = c → WC P O rnd (.seq (.cond o x y) z) a H Q := by
    intro c hc e
    obtain ⟨n, r, a2, H2, h1, h2⟩ := hc
    cases n with
    | zero => simp only [oRun] at h1; cases h1
    | succ n =>
      refine ⟨n + 2, r, a2, H2, ?_, h2⟩
      simp only [oRun, aStep] at h1
      obtain ⟨⟨res, H1⟩, k1, k2⟩ := bok h1
      have h3 : oRun P O (n + 1) (.code rnd (.cond o x y) a) H = .ok (res, H1) := by
        simp only [oRun, aStep, he]
        show oRun P O n (.code rnd (if b then x else y) a) H = _
        rw [e]; exact k1
      have h4 : oRun P O (n + 2) (.code rnd (.seq (.cond o x y) z) a) H = (oRun P O (n + 1) (.code rnd (.cond o x y) a) H >>= fun r => match r with
        | (.out .normal a, H) => oRun P O (n + 1) (.code rnd z a) H
        | r => .ok r) := by simp only [oRun, aStep]; rfl
      rw [h4, h3]
      cases res with
      | val v => cases k2
      | out e1 a1 =>
        cases e1 with
        | normal => exact run_up (Nat.le_succ n) k2
        | _ => exact k2
  cases b with
  | true => exact key x (ht rfl) rfl
  | false => exact key y (hf rfl) rfl

/-- what is asked behind a block's code -/
def blockK (P : Program) (O : Orc) (rnd : Option Nat) (id : Nat) (z : Code) (Q : AX → AAct → AH → Prop) : AX → AAct → AH → Prop
  | .normal, a, H => WC P O rnd z a H Q
  | .exit j, a, H => if j = id then WC P O rnd z a H Q else Q (.exit j) a H
  | x, a, H => Q x a H

theorem WC.block {id : Nat} {x z : Code} (h : WC P O rnd x a H (blockK P O rnd id z Q)) : WC P O rnd (.seq (.block id x) z) a H Q := by
  obtain ⟨n, e, a1, H1, h1, h2⟩ := h
  cases e with
  | normal => exact WC.seq ⟨n + 1, .normal, a1, H1, by simp only [oRun, aStep, h1]; rfl, h2⟩
  | exit j =>
    simp only [blockK] at h2
    by_cases e : j = id
    · rw [if_pos e] at h2
      exact WC.seq ⟨n + 1, .normal, a1, H1, by simp only [oRun, aStep, h1]; rw [← e]; simp [bind, Except.bind], h2⟩
    · rw [if_neg e] at h2
      exact WC.seq ⟨n + 1, .exit j, a1, H1, by simp only [oRun, aStep, h1]; simp [bind, Except.bind, e], h2⟩
  | goto l => exact WC.seq ⟨n + 1, .goto l, a1, H1, by simp only [oRun, aStep, h1]; rfl, h2⟩
  | ret => exact WC.seq ⟨n + 1, .ret, a1, H1, by simp only [oRun, aStep, h1]; rfl, h2⟩

/-- what is asked behind a round of a loop -/
def loopK (I : Nat → AAct → AH → Prop) (k : Nat) (Q : AX → AAct → AH → Prop) : AX → AAct → AH → Prop
  | .normal, a, H => ∃ k', k' < k ∧ I k' a H
  | x, a, H => Q x a H

theorem WC.loop {x : Code} (I : Nat → AAct → AH → Prop) (hI : ∀ k a H, I k a H → WC P O rnd x a H (loopK I k Q)) : ∀ (k : Nat) {a : AAct} {H : AH}, I k a H → WC P O rnd (.loop x) a H Q := by
  intro k
  induction k using Nat.strongRecOn with
  | _ k ih =>
    intro a H h
    obtain ⟨n, e, a1, H1, h1, h2⟩ := hI k a H h
    cases e with
    | normal =>
      obtain ⟨k', hk, h3⟩ := h2
      obtain ⟨m, e2, a2, H2, h4, h5⟩ := ih k' hk h3
      refine ⟨max n m + 1, e2, a2, H2, ?_, h5⟩
      simp only [oRun, aStep, run_up (Nat.le_max_left n m) h1]
      show oRun P O (max n m) (.code rnd (.loop x) a1) H1 = _
      exact run_up (Nat.le_max_right n m) h4
    | exit id => exact ⟨n + 1, _, a1, H1, by simp only [oRun, aStep, h1]; rfl, h2⟩
    | goto l => exact ⟨n + 1, _, a1, H1, by simp only [oRun, aStep, h1]; rfl, h2⟩
    | ret => exact ⟨n + 1, _, a1, H1, by simp only [oRun, aStep, h1]; rfl, h2⟩

end code

theorem bodyOf_mk {f : FuncId} {fn : Func} {c : Code} {args : List Value} (hf : P.funcs[f]? = some fn) (hc : fn.body = some c) (hn : args.length ≤ fn.ntmps) (hm : args.length ≤ 1000000) (hx : (fn.name == "runtime.NumGoroutine") = false) : bodyOf P f args = .ok (fn, c) := by
  unfold bodyOf
  rw [hf]
  simp only [hc]
  rw [if_neg (by omega), if_neg (by omega), hx]
  rfl

theorem WF1.call {f : FuncId} {fn : Func} {c : Code} {vs : List Value} {H : AH} {Q : Value → AH → Prop} (hb : bodyOf P f vs = .ok (fn, c)) (hk : known O f vs = none)
    (h : WC P O none c (startAct fn.ntmps vs) H (fun e a1 H1 => (e = .normal ∨ e = .ret) ∧ a1.marks = [] ∧ ∃ v, aResults P H1 a1 fn.results.toList = .ok v ∧ Q v H1)) : WF1 P O f vs H Q := by
  obtain ⟨n, e, a1, H1, h1, h2, h3, v, h4, h5⟩ := h
  refine ⟨n + 1, v, H1, ?_, h5⟩
  simp only [oRun, hk, aStep, hb]
  show (oRun P O n (.code none c (startAct fn.ntmps vs)) H >>= _) = _
  rw [h1]
  have h6 : ∀ rec, aLeave P rec a1.marks H1 = .ok H1 := fun rec => by rw [h3]; rfl
  rcases h2 with rfl | rfl
  · show (aLeave P (oRun P O n) a1.marks H1 >>= _) = _
    rw [h6]
    show (aResults P H1 a1 fn.results.toList >>= _) = _
    rw [h4]; rfl
  · show (aLeave P (oRun P O n) a1.marks H1 >>= _) = _
    rw [h6]
    show (aResults P H1 a1 fn.results.toList >>= _) = _
    rw [h4]; rfl

theorem WF1.known {f : FuncId} {v : Value} {H : AH} {Q : Value → AH → Prop} (hk : Eng.known O f [] = some v) (hs : O.s f = false) (h : Q v H) : WF1 P O f [] H Q :=
  ⟨1, v, H, by simp only [oRun, hk, hs], h⟩

theorem WF1.sort {f : FuncId} {args : List Value} {v : Value} {H H' : AH} {Q : Value → AH → Prop} (hs : O.s f = true) (hz : sortAns args H = .ok (v, H')) (h : Q v H') : WF1 P O f args H Q :=
  ⟨1, v, H', by
    have hk : Eng.known O f args = some (.bool false) := by unfold Eng.known; rw [hs]
    simp only [oRun, hk, hs, hz]
    rfl, h⟩

/-! ### Operations -/
def AAct.upd (a : AAct) (d : Option Tmp) (v : Value) : AAct :=
  match d with
  | none => a
  | some d => ⟨T.put AH.top a.tm d v, a.n, a.marks⟩

def AAct.can (a : AAct) (d : Option Tmp) : Bool :=
  match d with
  | none => true
  | some d => pick (Nat.ble (Nat.succ d) a.n) (Nat.ble a.n (nat_lit 281474976710654)) false

theorem AAct.put_can {a : AAct} {d : Option Tmp} {v : Value} (h : a.can d = true) : a.put d v = .ok (a.upd d v) := by
  obtain ⟨tm, n, ms⟩ := a
  cases d with
  | none => rfl
  | some d =>
    unfold AAct.can at h
    simp only at h
    show pick _ (pick _ _ _) _ = _
    cases h1 : Nat.ble (Nat.succ d) n with
    | false => rw [h1] at h; cases h
    | true =>
      rw [h1] at h
      have h2 : Nat.ble n 281474976710654 = true := h
      rw [h2]; rfl

section ops
variable {rnd : Option Nat} {all os : List Oper} {a : AAct} {H : AH} {Q : AAct → AH → Prop}

theorem WO.nil (h : Q a H) : WO P O rnd all [] a H Q := ⟨0, a, H, rfl, h⟩

/-- one operation that is carried out -/
theorem WO.one {o : Oper} {v : Value} {H1 : AH} (hw : aWanted all a o = .ok true) (hd : deferOf o.op = none) (ho : ∃ n, aOp P (oRun P O n) a H o = .ok (v, H1)) (hc : a.can o.dst = true) (h : WO P O rnd all os (a.upd o.dst v) H1 Q) : WO P O rnd all (o :: os) a H Q := by
  obtain ⟨n, h1⟩ := ho
  obtain ⟨m, a2, H2, h2, h3⟩ := h
  refine ⟨max n m, a2, H2, ?_, h3⟩
  simp only [aOps, hw, hd]
  show (aOp P (oRun P O (max n m)) a H o >>= fun p => (a.put o.dst p.1) >>= fun a1 => aOps P (oRun P O (max n m)) rnd all os a1 p.2) = _
  rw [aOp_mono (oRun_le (Nat.le_max_left n m)) h1]
  show ((a.put o.dst v) >>= fun a1 => aOps P (oRun P O (max n m)) rnd all os a1 H1) = _
  rw [AAct.put_can hc]
  exact ops_up (Nat.le_max_right n m) h2

/-- one that is not -/
theorem WO.not {o : Oper} (hw : aWanted all a o = .ok false) (hc : a.can o.dst = true) (h : WO P O rnd all os (a.upd o.dst undef) H Q) : WO P O rnd all (o :: os) a H Q := by
  obtain ⟨m, a2, H2, h2, h3⟩ := h
  refine ⟨m, a2, H2, ?_, h3⟩
  simp only [aOps, hw]
  show ((a.put o.dst undef) >>= fun a1 => aOps P (oRun P O m) rnd all os a1 H) = _
  rw [AAct.put_can hc]
  exact h2

theorem wanted_free {o : Oper} (h : o.guard = none) : aWanted all a o = .ok true := by unfold aWanted; rw [h]
theorem wanted_when {o : Oper} {j : Nat} {w b : Bool} {d : Tmp} (h : o.guard = some (j, w)) (hd : (all[j]?).bind (·.dst) = some d) (hl : Nat.ble (Nat.succ d) a.n = true) (hg : a.tm.get d = some (.bool b)) : aWanted all a o = .ok (b == w) := by
  unfold aWanted
  rw [h]
  simp only [hd]
  rw [Nat.ble_eq] at hl
  rw [if_pos (show d < a.n from hl), hg]

/-- a call -/
theorem WO.call {o : Oper} {g : FuncId} {xs : Array Operand} {ts : Array TypeId} {vs : List Value} {R1 : Value → AH → Prop} (ho : o.op = .call ⟨.value (.func g), xs, ts⟩) (hw : aWanted all a o = .ok true) (hx : allR a.eval xs.toList = .ok vs) (hc : a.can o.dst = true)
    (hf : WF1 P O g vs H R1) (h : ∀ v H1, R1 v H1 → WO P O rnd all os (a.upd o.dst v) H1 Q) : WO P O rnd all (o :: os) a H Q := by
  obtain ⟨n, v, H1, h1, h2⟩ := hf
  refine WO.one hw (by rw [ho]; rfl) ⟨n, ?_⟩ hc (h v H1 h2)
  obtain ⟨d, op, ty, ps, af, gu⟩ := o
  simp only at ho
  subst ho
  have e : (#[] : Array Value).toList ++ vs ++ (#[] : Array Value).toList = vs := by simp
  simp only [aOp, hx, AAct.eval, bind, Except.bind, e, h1]
end ops

end
end Go.Eng
/-
  The calculus' rules for single operations.
-/
namespace Go.Eng
noncomputable section
variable {P : Program} {O : Orc}

/-- what two whole numbers come to -/
def binV (op : BinOp) (k : IntKind) (m n : Int) : Option Value :=
  match op with
  | .add => some (.int k (k.wrap (m + n)))
  | .sub => some (.int k (k.wrap (m - n)))
  | .mul => some (.int k (k.wrap (m * n)))
  | .eql => some (.bool (m == n))
  | .neq => some (.bool (m != n))
  | .lss => some (.bool (decide (m < n)))
  | .leq => some (.bool (decide (m ≤ n)))
  | .gtr => some (.bool (decide (m > n)))
  | .geq => some (.bool (decide (m ≥ n)))
  | _ => none

def AH.push (H : AH) (r : Row) : AH := ⟨T.put (Nat.succ H.next) H.objs H.next (.row r), Nat.succ H.next⟩

theorem AH.push_next (H : AH) (r : Row) : (H.push r).next = H.next + 1 := rfl
theorem AH.get_push {H : AH} {r : Row} (j : Nat) : (H.push r).get j = if j = H.next then some (.row r) else H.get j :=
  T.get_put' _ _ _ _
theorem AH.new_push {H : AH} {r : Row} : H.new (.row r) = .ok (H.next, H.push r) := by
  obtain ⟨t, n⟩ := H
  rfl

section ops
variable {rnd : Option Nat} {all os : List Oper} {a : AAct} {H : AH} {Q : AAct → AH → Prop} {d : Option Tmp} {ty : TypeId} {ps : String} {af : Array Edge} {gu : Option (Nat × Bool)}

theorem binV_ok {op : BinOp} {k : IntKind} {m n : Int} {v : Value} (h : binV op k m n = some v) (t : TypeId) : gOnly (pureRun P 0 (Go.binOp op t (.int k m) (.int k n))) = .ok v := by
  cases op <;> simp only [binV] at h <;> first | (cases h; done) | (cases h; simp [Go.binOp, Op.intArith, Op.intCmp, pureRun, gOnly, gnd, pure]; done) | (cases h; simp only [Go.binOp, Op.intArith, Op.intCmp, ne_eq, not_true_eq_false, if_false]; rfl)

theorem WO.pickT {c x y : Operand} {b : Bool} {v : Value} (hw : aWanted all a ⟨d, .pick c x y, ty, ps, af, gu⟩ = .ok true) (hb : a.ev c = some (.bool b)) (ht : b = true) (hx : a.ev x = some v) (hc : a.can d = true) (h : WO P O rnd all os (a.upd d v) H Q) : WO P O rnd all (⟨d, .pick c x y, ty, ps, af, gu⟩ :: os) a H Q := by
  refine WO.one hw rfl ⟨0, ?_⟩ hc h
  subst ht
  simp only [aOp, AAct.ev_eval hb, AAct.ev_eval hx, bind, Except.bind, if_true]

theorem WO.len {x : Operand} {t e : TypeId} {p : Option Addr} {n c : Nat} (hw : aWanted all a ⟨d, .call ⟨.builtin .len, #[x], #[t]⟩, ty, ps, af, gu⟩ = .ok true) (ht : P.underlying t = some (.slice e)) (hx : a.ev x = some (.slice p n c)) (hc : a.can d = true) (h : WO P O rnd all os (a.upd d (.int .i64 n)) H Q) :
    WO P O rnd all (⟨d, .call ⟨.builtin .len, #[x], #[t]⟩, ty, ps, af, gu⟩ :: os) a H Q := by
  refine WO.one hw rfl ⟨0, ?_⟩ hc h
  simp only [aOp, allR, AAct.ev_eval hx, bind, Except.bind, aLen, ht]

theorem WO.box {t : TypeId} {x : Operand} {v : Value} (hw : aWanted all a ⟨d, .box t x, ty, ps, af, gu⟩ = .ok true) (hx : a.ev x = some v) (hc : a.can d = true)
    (h : WO P O rnd all os (a.upd d (.pointer (some ⟨H.next, 0, none⟩))) (H.push { cells := v.cells.toList.map some, ty := t, fam := H.next, disp := 0, esz := 0, ro := false, solo := true }) Q) : WO P O rnd all (⟨d, .box t x, ty, ps, af, gu⟩ :: os) a H Q := by
  refine WO.one hw rfl ⟨0, ?_⟩ hc h
  simp only [aOp, AAct.ev_eval hx, bind, Except.bind, newRow, AH.new_push]

theorem WO.extract {x : Operand} {i : Nat} {vs : Array Value} {v : Value} (hw : aWanted all a ⟨d, .extract x i, ty, ps, af, gu⟩ = .ok true) (hx : a.ev x = some (.tuple vs)) (hv : vs.toList[i]? = some v) (hc : a.can d = true) (h : WO P O rnd all os (a.upd d v) H Q) : WO P O rnd all (⟨d, .extract x i, ty, ps, af, gu⟩ :: os) a H Q := by
  refine WO.one hw rfl ⟨0, ?_⟩ hc h
  simp only [aOp, AAct.ev_eval hx, bind, Except.bind, hv]

theorem get_push_new {r : Row} : (H.push r).get H.next = some (.row r) := by rw [AH.get_push, if_pos rfl]

end ops

/-! ### Where paths meet -/
section meet
variable {rnd : Option Nat} {a : AAct} {H : AH} {Q : AX → AAct → AH → Prop}

theorem loopK.mk {I : Nat → AAct → AH → Prop} {k k' : Nat} (h : I k' a H) (hk : k' < k) : loopK I k Q .normal a H := ⟨k', hk, h⟩
end meet

end
end Go.Eng
