/-
  Loops over functions: what the machine does, and the rule.
-/
import Derived.Test.YtfgccgoeiedbnaaM18
set_option linter.unusedSimpArgs false
set_option linter.unusedVariables false
namespace Go.Eng
noncomputable section
variable {P : Program} {O : FuncId → Option Value}

def AH.more (H : AH) (o : AO) : AH := ⟨T.put (Nat.succ H.next) H.objs H.next o, Nat.succ H.next⟩
theorem AH.new_more (H : AH) (o : AO) : H.new o = .ok (H.next, H.more o) := rfl

/-! ### The machine -/
def loopR (a : AAct) (params : List Tmp) (assign body : Code) (mk : Nat) : ALoop := { state := .ready, pending := none, fn := 0, tm := a.tm, n := a.n, params := params, assign := assign, body := body, mark := mk }

/-- a loop over a function, begun -/
inductive Begun (params : List Tmp) (assign body : Code) : Option Nat → AAct → AH → AAct → AH → Nat → ALoop → Prop
  | free (a : AAct) (H : AH) : Begun params assign body none a H ⟨a.tm, a.n, .mark H.next :: a.marks⟩ ((H.more (.mark true)).more (.loop (loopR a params assign body H.next))) (H.next + 1) (loopR a params assign body H.next)
  | within (a : AAct) (H : AH) (lp : Nat) (r : ALoop) (h : H.get lp = some (.loop r)) : Begun params assign body (some lp) a H a (H.more (.loop (loopR a params assign body r.mark))) H.next (loopR a params assign body r.mark)

theorem WC.rangeFunc {rnd : Option Nat} {g : Operand} {params : Array Tmp} {assign body z : Code} {a a1 : AAct} {H H1 : AH} {l : Nat} {r : ALoop} {Q : AX → AAct → AH → Prop} {f : FuncId} {first cap : Array Value}
    (hb : Begun params.toList assign body rnd a H a1 H1 l r) (hg : a.ev g = some (.func (.func f) first cap))
    (h : WF1 P O f (first.toList ++ [.func (.yield l) #[] #[]] ++ cap.toList) H1 (fun _ H2 => ∃ r2, H2.get l = some (.loop r2) ∧ (r2.state == .busy) = false ∧
      match r2.pending with
      | none => WC P O rnd z a1 (H2.set l (.loop { r2 with state := .exhausted })) Q
      | some c => WC P O rnd c a1 (H2.set l (.loop { r2 with state := .exhausted })) (andThen P O rnd z Q))) : WC P O rnd (.seq (.rangeFunc g params assign body) z) a H Q := by
  obtain ⟨n, v, H2, h1, r2, h2, h3, h4⟩ := h
  have hg1 : a1.eval g = .ok (.func (.func f) first cap) := by
    have := AAct.ev_eval hg
    cases hb with
    | free => cases g <;> exact this
    | within => exact this
  have key : ∀ m, n ≤ m → oRun P O (m + 1) (.code rnd (.rangeFunc g params assign body) a) H = (match r2.pending with
      | none => .ok (.out .normal a1, H2.set l (.loop { r2 with state := .exhausted }))
      | some c => oRun P O m (.code rnd c a1) (H2.set l (.loop { r2 with state := .exhausted }))) := by
    intro m hm
    have h1' := run_up hm h1
    cases hb with
    | free =>
      have en : (H.more (AO.mark true)).next = H.next + 1 := rfl
      simp only [loopR] at h1'
      simp only [oRun, aStep, AH.new_more, bind, Except.bind, hg1, en, h1', h2, h3, Bool.false_eq_true, if_false]
      cases r2.pending <;> rfl
    | within _ _ lp r0 hr0 =>
      simp only [oRun, aStep, hr0, AH.new_more, bind, Except.bind, hg1]
      simp only [loopR] at h1'
      simp only [h1', h2, h3, Bool.false_eq_true, if_false]
      cases r2.pending <;> rfl
  cases hp : r2.pending with
  | none =>
    rw [hp] at h4 key
    exact WC.seq ⟨n + 1, .normal, a1, _, key n (Nat.le_refl _), h4⟩
  | some c =>
    rw [hp] at h4 key
    obtain ⟨m, x, a3, H3, k1, k2⟩ := h4
    exact WC.seq ⟨max n m + 1, x, a3, H3, by rw [key _ (Nat.le_max_left n m)]; exact run_up (Nat.le_max_right n m) k1, k2⟩

def putAll (b : AAct) (ps : List (Tmp × Value)) : R AAct := ps.foldlM (fun (b : AAct) (p : Tmp × Value) => b.put (some p.1) p.2) b

theorem WO.yield {rnd : Option Nat} {all os : List Oper} {a act : AAct} {H : AH} {Q : AAct → AH → Prop} {o : Oper} {g : Operand} {xs : Array Operand} {tys : Array TypeId} {vs : List Value} {l : Nat} {fs cs : Array Value} {r : ALoop}
    (ho : o.op = .call ⟨.value g, xs, tys⟩) (hw : aWanted all a o = .ok true) (hg : a.ev g = some (.func (.yield l) fs cs)) (hx : allR a.eval xs.toList = .ok vs) (hc : a.can o.dst = true)
    (hl : H.get l = some (.loop r)) (hst : r.state = .ready) (hlen : r.params.length = vs.length) (hact : putAll { tm := r.tm, n := r.n, marks := [] } (r.params.zip vs) = .ok act)
    (h : WC P O (some l) r.assign act H (fun x act1 H1 => x = .normal ∧ ∃ r1, H1.get l = some (.loop r1) ∧ r1.state = .ready ∧
      WC P O (some l) r.body act1 (H1.set l (.loop { r1 with state := .busy })) (fun x _ H2 => ∃ r2, H2.get l = some (.loop r2) ∧
        WO P O rnd all os (a.upd o.dst (.bool (jumpOf x).isNone)) (H2.set l (.loop { r2 with state := if (jumpOf x).isNone then .ready else .done, pending := jumpOf x })) Q))) : WO P O rnd all (o :: os) a H Q := by
  obtain ⟨n1, x1, act1, H1, h1, rfl, r1, h2, h3, n2, x2, act2, H2, h4, r2, h5, h6⟩ := h
  refine WO.one hw (by rw [ho]; rfl) ⟨Max.max n1 n2, ?_⟩ hc h6
  obtain ⟨d, op, ty, ps, af, gu⟩ := o
  simp only at ho
  subst ho
  have hg' := AAct.ev_eval hg
  have h1' := run_up (Nat.le_max_left n1 n2) h1
  have h4' := run_up (Nat.le_max_right n1 n2) h4
  have hact' : (r.params.zip vs).foldlM (fun (b : AAct) (p : Tmp × Value) => b.put (some p.1) p.2) { tm := r.tm, n := r.n, marks := [] } = .ok act := hact
  have hst1 : ¬ (r1.state ≠ .ready) := by rw [h3]; simp
  simp only [aOp, hx, hg', bind, Except.bind, hl, hst, hlen, ne_eq, not_true, if_false]
  rw [hact']
  simp only [h1', h2]
  rw [if_neg hst1]
  simp only [h4', h5]

/-! ### What the loop's own object leaves alone -/
structure But (l : Nat) (H H' : AH) : Prop where
  next : H'.next = H.next
  oth : ∀ j, j ≠ l → H'.get j = H.get j
  was : ∃ r, H.get l = some (.loop r)
  is : ∃ r, H'.get l = some (.loop r)

theorem But.row {l : Nat} {H H' : AH} (h : But l H H') {id : Nat} {r : Row} (hr : H.get id = some (.row r)) : H'.get id = some (.row r) := by
  rw [h.oth id (fun e => by subst e; obtain ⟨q, hq⟩ := h.was; rw [hq] at hr; cases hr)]
  exact hr

def Ctx.to (C : Ctx) (H : AH) : Ctx := ⟨H, C.ids, C.toks, C.lims, C.X⟩

theorem RelH.next {C : Ctx} {e : Env} {fr : List PRow} {tk : List Nat} {H : AH} (h : RelH C e fr tk H) : XC e H := h.xc

/-! ### What calling the loop's function comes to -/
def fin (r : ALoop) (p : Option Code) : ALoop := { r with state := if p.isNone then .ready else .done, pending := p }
def Ctx.fin (C : Ctx) (l : Nat) (r : ALoop) : Option Code → Ctx
  | none => C
  | some c => C.to (C.H0.set l (.loop (Eng.fin r (some c))))

def Yields (P : Program) (O : FuncId → Option Value) (C : Ctx) (l : Nat) (r : ALoop) (xs : List PV) (fr : List PRow) (tk : List Nat) (K : Option Code → List PRow → List Nat → Prop) : Prop :=
  ∀ e H vs, RelH C e fr tk H → L2 (RV e tk H true) xs vs → r.params.length = vs.length ∧ ∃ act, putAll { tm := r.tm, n := r.n, marks := [] } (r.params.zip vs) = .ok act ∧
    WC P O (some l) r.assign act H (fun x act1 H1 => x = .normal ∧ ∃ r1, H1.get l = some (.loop r1) ∧ r1.state = .ready ∧
      WC P O (some l) r.body act1 (H1.set l (.loop { r1 with state := .busy })) (fun x _ H2 => ∃ r2, H2.get l = some (.loop r2) ∧
        ∃ e' fr' tk', RelH (C.fin l r (jumpOf x)) e' fr' tk' (H2.set l (.loop { r2 with state := if (jumpOf x).isNone then .ready else .done, pending := jumpOf x })) ∧
          Grow e tk H e' tk' (H2.set l (.loop { r2 with state := if (jumpOf x).isNone then .ready else .done, pending := jumpOf x })) ∧ K (jumpOf x) fr' tk'))

/-! ### The calculus of a function that a loop goes through -/
def PCY (P : Program) (O : FuncId → Option Value) (C : Ctx) (l : Nat) (r : ALoop) (c : Code) (s : PS) (Q : Option Code → AX → PS → Prop) : Prop :=
  ∀ e a H, RelA C e s a H → WC P O none c a H (fun x a' H' => ∃ p e' s', RelA (C.fin l r p) e' s' a' H' ∧ Q p x s')
def POY (P : Program) (O : FuncId → Option Value) (C : Ctx) (l : Nat) (r : ALoop) (all os : List Oper) (s : PS) (Q : Option Code → PS → Prop) : Prop :=
  ∀ e a H, RelA C e s a H → WO P O none all os a H (fun a' H' => ∃ p e' s', RelA (C.fin l r p) e' s' a' H' ∧ Q p s')

theorem rnd_none (C : Ctx) : RndOK none C := fun l h => by cases h

section y
variable {C : Ctx} {l : Nat} {r : ALoop} {s : PS} {Q : Option Code → AX → PS → Prop} {all os : List Oper}

/-- what comes behind: the loop goes on, or has been left -/
def goesY (P : Program) (O : FuncId → Option Value) (C : Ctx) (l : Nat) (r : ALoop) (z : Code) (Q : Option Code → AX → PS → Prop) : Option Code → PS → Prop
  | none, s => PCY P O C l r z s Q
  | some c, s => PC P O none z s (Q (some c))

theorem goesY.run {z : Code} {p : Option Code} {e : Env} {a : AAct} {H : AH} (h : goesY P O C l r z Q p s) (hR : RelA (C.fin l r p) e s a H) : WC P O none z a H (fun x a' H' => ∃ p e' s', RelA (C.fin l r p) e' s' a' H' ∧ Q p x s') := by
  cases p with
  | none => exact h e a H hR
  | some c => exact (h (C.fin l r (some c)) e a H hR (rnd_none _)).mono fun x a' H' ⟨e', s', h1, h2⟩ => ⟨some c, e', s', h1, h2⟩

theorem WO.append {rnd : Option Nat} {xs ys : List Oper} {a : AAct} {H : AH} {Q : AAct → AH → Prop} (h : WO P O rnd all xs a H (fun a1 H1 => WO P O rnd all ys a1 H1 Q)) : WO P O rnd all (xs ++ ys) a H Q := by
  obtain ⟨m, a1, H1, k1, m2, a2, H2, k4, k5⟩ := h
  refine ⟨Max.max m m2, a2, H2, ?_, k5⟩
  have key : ∀ (xs : List Oper) (a : AAct) (H : AH), aOps P (oRun P O (Max.max m m2)) rnd all xs a H = .ok (a1, H1) → aOps P (oRun P O (Max.max m m2)) rnd all ys a1 H1 = .ok (a2, H2) → aOps P (oRun P O (Max.max m m2)) rnd all (xs ++ ys) a H = .ok (a2, H2) := by
    intro xs
    induction xs with
    | nil => intro a H h1 h2; simp only [aOps] at h1; cases h1; exact h2
    | cons o xs ih =>
      intro a H h1 h2
      simp only [List.cons_append, aOps] at h1 ⊢
      obtain ⟨b, b1, b2⟩ := bok h1
      rw [b1]
      cases b with
      | true =>
        simp only [if_true] at b2
        show (match deferOf o.op with | some c => _ | none => _) = _
        cases hd : deferOf o.op with
        | some c =>
          rw [hd] at b2
          simp only at b2 ⊢
          split at b2
          · cases b2
          · rename_i hr
            obtain ⟨d, d1, d2⟩ := bok b2
            obtain ⟨a', a1', a2'⟩ := bok d2
            rw [if_neg hr, d1]
            show ((AAct.put ⟨a.tm, a.n, d :: a.marks⟩ o.dst undef) >>= fun a' => aOps P (oRun P O (Max.max m m2)) rnd all (xs ++ ys) a' H) = _
            rw [a1']
            exact ih a' H a2' h2
        | none =>
          rw [hd] at b2
          simp only at b2 ⊢
          obtain ⟨⟨v, Hv⟩, d1, d2⟩ := bok b2
          obtain ⟨a', a1', a2'⟩ := bok d2
          rw [d1]
          show ((a.put o.dst v) >>= fun a' => aOps P (oRun P O (Max.max m m2)) rnd all (xs ++ ys) a' Hv) = _
          rw [a1']
          exact ih a' Hv a2' h2
      | false =>
        simp only [Bool.false_eq_true, if_false] at b2
        obtain ⟨a', a1', a2'⟩ := bok b2
        show ((a.put o.dst undef) >>= fun a' => aOps P (oRun P O (Max.max m m2)) rnd all (xs ++ ys) a' H) = _
        rw [a1']
        exact ih a' H a2' h2
  exact key _ a H (ops_up (Nat.le_max_left m m2) k1) (ops_up (Nat.le_max_right m m2) k4)
theorem POY.cut {Q : Option Code → PS → Prop} (n : Nat) (J : PS → Prop) (h1 : PO P O none all (os.take n) s J) (h2 : ∀ s1, J s1 → POY P O C l r all (os.drop n) s1 Q) : POY P O C l r all os s Q := fun e a H hR => by
  rw [← List.take_append_drop n os]
  exact WO.append ((h1 C e a H hR).mono fun a' H' ⟨e', s', k1, k2⟩ => h2 s' k2 e' a' H' k1)

/-- what comes behind a call of the loop's function -/
def goesO (P : Program) (O : FuncId → Option Value) (C : Ctx) (l : Nat) (r : ALoop) (all os : List Oper) (Q : Option Code → PS → Prop) : Option Code → PS → Prop
  | none, s => POY P O C l r all os s Q
  | some c, s => PO P O none all os s (Q (some c))

theorem RelA.fin_r0 {p : Option Code} : (C.fin l r p).ids = C.ids ∧ (C.fin l r p).toks = C.toks ∧ (C.fin l r p).H0.next = C.H0.next := by
  cases p <;> exact ⟨rfl, rfl, rfl⟩

theorem rv_yield {e : Env} {tk : List Nat} {H : AH} {b : Bool} {l : Nat} {v : Value} (h : RV e tk H b (.val (.func (.yield l) #[] #[])) v) : v = .func (.yield l) #[] #[] := by cases h; rfl

def evAll (s : PS) : List Operand → Option (List PV)
  | [] => some []
  | o :: os => match s.ev o with
    | some p => match evAll s os with
      | some ps => some (p :: ps)
      | none => none
    | none => none

theorem RelA.evAll {e : Env} {a : AAct} {H : AH} (hR : RelA C e s a H) : ∀ {os : List Operand} {ps : List PV}, Eng.evAll s os = some ps → ∃ vs, allR a.eval os = .ok vs ∧ L2 (RV e s.tk H true) ps vs
  | [], ps, h => by cases h; exact ⟨[], rfl, L2.nil⟩
  | o :: os, ps, h => by
    simp only [Eng.evAll] at h
    cases h1 : s.ev o with
    | none => rw [h1] at h; cases h
    | some p =>
      rw [h1] at h
      cases h2 : Eng.evAll s os with
      | none => rw [h2] at h; cases h
      | some qs =>
        rw [h2] at h; cases h
        obtain ⟨v, k1, k2⟩ := hR.ev h1
        obtain ⟨vs, k3, k4⟩ := RelA.evAll hR h2
        exact ⟨v :: vs, allR_cons (AAct.ev_eval k1) k3, L2.cons k2 k4⟩

/-- a call of the loop's function -/
theorem POY.yield {Q : Option Code → PS → Prop} {o : Oper} {g : Operand} {xs : Array Operand} {tys : Array TypeId} {ps : List PV} {K : Option Code → List PRow → List Nat → Prop} (hC : C.H0.get l = some (.loop r)) (hst : r.state = .ready)
    (ho : o.op = .call ⟨.value g, xs, tys⟩) (hw : pWanted all s o = some true) (hg : s.ev g = some (.val (.func (.yield l) #[] #[]))) (hx : evAll s xs.toList = some ps) (hc : s.can o.dst = true) (hms : s.ms = [])
    (hY : Yields P O C l r ps s.fr s.tk K) (h : ∀ p fr' tk', K p fr' tk' → goesO P O C l r all os Q p ((s.mem fr' tk').upd o.dst (.val (.bool p.isNone)))) : POY P O C l r all (o :: os) s Q := fun e a H hR => by
  obtain ⟨v, k1, k2⟩ := hR.ev hg
  rw [rv_yield k2] at k1
  obtain ⟨vs, k3, k4⟩ := hR.evAll hx
  have hl : H.get l = some (.loop r) := hR.h.frame.oth l _ hC (fun r e => by cases e)
  obtain ⟨hlen, act, h1, h2⟩ := hY e H vs hR.h k4
  have hmk : a.marks = [] := (hms ▸ hR.marks).none
  refine WO.yield ho (hR.wanted hw) k1 k3 (hR.can hc) hl hst hlen h1 (h2.mono fun x act1 H1 ⟨hx, r1, h3, h4, h5⟩ => ⟨hx, r1, h3, h4, ?_⟩)
  have hr1 : WC P O (some l) r.body act1 (H1.set l (.loop { r1 with state := .busy })) (fun x _ H2 => ∃ r2, H2.get l = some (.loop r2) ∧
        ∃ e' fr' tk', RelH (C.fin l r (jumpOf x)) e' fr' tk' (H2.set l (.loop { r2 with state := if (jumpOf x).isNone then .ready else .done, pending := jumpOf x })) ∧
          Grow e s.tk H e' tk' (H2.set l (.loop { r2 with state := if (jumpOf x).isNone then .ready else .done, pending := jumpOf x })) ∧ K (jumpOf x) fr' tk') := h5
  refine hr1.mono fun y _ H2 ⟨r2, h6, e', fr', tk', h7, h8, h9⟩ => ⟨r2, h6, ?_⟩
  have hq := h _ _ _ h9
  generalize jumpOf y = p at *
  generalize (H2.set l (.loop { r2 with state := if p.isNone then .ready else .done, pending := p })) = H3 at *
  have hR3 : RelA (C.fin l r p) e' ((s.mem fr' tk').upd o.dst (.val (.bool p.isNone))) (a.upd o.dst (.bool p.isNone)) H3 := by
    have hf := RelA.fin_r0 (C := C) (l := l) (r := r) (p := p)
    have base : RelA (C.fin l r p) e' (s.mem fr' tk') a H3 := ⟨h7, hR.n, by show MarksR _ s.ms a H3; rw [hms]; exact .nil hmk, by rw [hf.1]; exact hR.r0, by rw [hf.2.1]; exact hR.t0, fun t q ht => let ⟨v, m1, m2⟩ := hR.tm t q ht; ⟨v, m1, m2.grow h8⟩⟩
    have := base.upd (d := o.dst) (p := .val (.bool p.isNone)) (v := .bool p.isNone) (by have := hc; unfold PS.can at this ⊢; exact this) (Step.refl h7.inv) (.val rfl)
    exact this
  cases p with
  | none => exact (hq e' _ H3 hR3)
  | some c => exact (hq (C.fin l r (some c)) e' _ H3 hR3).mono fun a' H' ⟨e2, s2, m1, m2⟩ => ⟨some c, e2, s2, m1, m2⟩
end y

/-! ### A function that a loop goes through, as a list -/

/-! ### The loop -/

end
end Go.Eng
