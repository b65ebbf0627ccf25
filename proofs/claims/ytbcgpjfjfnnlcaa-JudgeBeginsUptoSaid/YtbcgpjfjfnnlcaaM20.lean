/-
  Loops over functions: what the machine does, and the rule.
-/
import Derived.Test.YtbcgpjfjfnnlcaaM18
set_option linter.unusedSimpArgs false
set_option linter.unusedVariables false
namespace Go.Eng
noncomputable section
variable {P : Program} {O : Orc}

def AH.more (H : AH) (o : AO) : AH := ⟨T.put (Nat.succ H.next) H.objs H.next o, Nat.succ H.next⟩
theorem AH.new_more (H : AH) (o : AO) : H.new o = .ok (H.next, H.more o) := rfl
theorem AH.get_more {H : AH} {o : AO} (j : Nat) : (H.more o).get j = if j = H.next then some o else H.get j := T.get_put' _ _ _ _
theorem AH.set_next (H : AH) (id : Nat) (o : AO) : (H.set id o).next = H.next := rfl

/-! ### The machine -/
def loopR (a : AAct) (params : List Tmp) (assign body : Code) (mk : Nat) : ALoop := { state := .ready, pending := none, fn := 0, tm := a.tm, n := a.n, params := params, assign := assign, body := body, mark := mk }

/-- a loop over a function, begun -/
inductive Begun (params : List Tmp) (assign body : Code) : Option Nat → AAct → AH → AAct → AH → Nat → ALoop → Prop
  | free (a : AAct) (H : AH) : Begun params assign body none a H ⟨a.tm, a.n, .mark H.next :: a.marks⟩ ((H.more (.mark true)).more (.loop (loopR a params assign body H.next))) (H.next + 1) (loopR a params assign body H.next)
  | within (a : AAct) (H : AH) (lp : Nat) (r : ALoop) (h : H.get lp = some (.loop r)) : Begun params assign body (some lp) a H a (H.more (.loop (loopR a params assign body r.mark))) H.next (loopR a params assign body r.mark)

theorem WC.rangeFunc {rnd : Option Nat} {g : Operand} {params : Array Tmp} {assign body z : Code} {a a1 : AAct} {H H1 : AH} {l : Nat} {r : ALoop} {Q : AX → AAct → AH → Prop} {f : FuncId} {first cap : Array Value}
    (hb : Begun params.toList assign body rnd a H a1 H1 l r) (hg : a.ev g = some (.func (.func f) first cap))
    (h : WF1 P O f (first.toList ++ [.func (.yield l) #[] #[]] ++ cap.toList) H1 (fun _ H2 => ∃ r2, H2.get l = some (.loop r2) ∧ (r2.state == .busy) = false ∧
      match r2.pending with
      | none => WC P O rnd z a1 (H2.set l (.loop { r2 with state := .exhausted })) Q
      | some c => WC P O rnd c a1 (H2.set l (.loop { r2 with state := .exhausted })) (andThen P O rnd z Q))) : WC P O rnd (.seq (.rangeFunc g params assign body) z) a H Q := by
  obtain ⟨n, v, H2, h1, r2, h2, h3, h4⟩ := h
  have hg1 : a1.eval g = .ok (.func (.func f) first cap) := by
    have := AAct.ev_eval hg
    cases hb with
    | free => cases g <;> exact this
    | within => exact this
  have key : ∀ m, n ≤ m → oRun P O (m + 1) (.code rnd (.rangeFunc g params assign body) a) H = (match r2.pending with
      | none => .ok (.out .normal a1, H2.set l (.loop { r2 with state := .exhausted }))
      | some c => oRun P O m (.code rnd c a1) (H2.set l (.loop { r2 with state := .exhausted }))) := by
    intro m hm
    have h1' := run_up hm h1
    cases hb with
    | free =>
      have en : (H.more (AO.mark true)).next = H.next + 1 := rfl
      simp only [loopR] at h1'
      simp only [oRun, aStep, AH.new_more, bind, Except.bind, hg1, en, h1', h2, h3, Bool.false_eq_true, if_false]
      cases r2.pending <;> rfl
    | within _ _ lp r0 hr0 =>
      simp only [oRun, aStep, hr0, AH.new_more, bind, Except.bind, hg1]
      simp only [loopR] at h1'
      simp only [h1', h2, h3, Bool.false_eq_true, if_false]
      cases r2.pending <;> rfl
  cases hp : r2.pending with
  | none =>
    rw [hp] at h4 key
    exact WC.seq ⟨n + 1, .normal, a1, _, key n (Nat.le_refl _), h4⟩
  | some c =>
    rw [hp] at h4 key
    obtain ⟨m, x, a3, H3, k1, k2⟩ := h4
    exact WC.seq ⟨max n m + 1, x, a3, H3, by rw [key _ (Nat.le_max_left n m)]; exact run_up (Nat.le_max_right n m) k1, k2⟩

theorem WC.jump {rnd : Option Nat} {x : AX} {c z : Code} {a : AAct} {H : AH} {Q : AX → AAct → AH → Prop} (hj : jumpOf x = some c) (h : Q x a H) : WC P O rnd c a H (andThen P O rnd z Q) := by
  cases x with
  | normal => cases hj
  | ret => cases hj; exact ⟨1, .ret, a, H, rfl, h⟩
  | exit id => cases hj; exact ⟨1, .exit id, a, H, rfl, h⟩
  | goto id => cases hj; exact ⟨1, .goto id, a, H, rfl, h⟩

def putAll (b : AAct) (ps : List (Tmp × Value)) : R AAct := ps.foldlM (fun (b : AAct) (p : Tmp × Value) => b.put (some p.1) p.2) b

theorem WO.yield {rnd : Option Nat} {all os : List Oper} {a act : AAct} {H : AH} {Q : AAct → AH → Prop} {o : Oper} {g : Operand} {xs : Array Operand} {tys : Array TypeId} {vs : List Value} {l : Nat} {fs cs : Array Value} {r : ALoop}
    (ho : o.op = .call ⟨.value g, xs, tys⟩) (hw : aWanted all a o = .ok true) (hg : a.ev g = some (.func (.yield l) fs cs)) (hx : allR a.eval xs.toList = .ok vs) (hc : a.can o.dst = true)
    (hl : H.get l = some (.loop r)) (hst : r.state = .ready) (hlen : r.params.length = vs.length) (hact : putAll { tm := r.tm, n := r.n, marks := [] } (r.params.zip vs) = .ok act)
    (h : WC P O (some l) r.assign act H (fun x act1 H1 => x = .normal ∧ ∃ r1, H1.get l = some (.loop r1) ∧ r1.state = .ready ∧
      WC P O (some l) r.body act1 (H1.set l (.loop { r1 with state := .busy })) (fun x _ H2 => ∃ r2, H2.get l = some (.loop r2) ∧
        WO P O rnd all os (a.upd o.dst (.bool (jumpOf x).isNone)) (H2.set l (.loop { r2 with state := if (jumpOf x).isNone then .ready else .done, pending := jumpOf x })) Q))) : WO P O rnd all (o :: os) a H Q := by
  obtain ⟨n1, x1, act1, H1, h1, rfl, r1, h2, h3, n2, x2, act2, H2, h4, r2, h5, h6⟩ := h
  refine WO.one hw (by rw [ho]; rfl) ⟨Max.max n1 n2, ?_⟩ hc h6
  obtain ⟨d, op, ty, ps, af, gu⟩ := o
  simp only at ho
  subst ho
  have hg' := AAct.ev_eval hg
  have h1' := run_up (Nat.le_max_left n1 n2) h1
  have h4' := run_up (Nat.le_max_right n1 n2) h4
  have hact' : (r.params.zip vs).foldlM (fun (b : AAct) (p : Tmp × Value) => b.put (some p.1) p.2) { tm := r.tm, n := r.n, marks := [] } = .ok act := hact
  have hst1 : ¬ (r1.state ≠ .ready) := by rw [h3]; simp
  simp only [aOp, hx, hg', bind, Except.bind, hl, hst, hlen, ne_eq, not_true, if_false]
  rw [hact']
  simp only [h1', h2]
  rw [if_neg hst1]
  simp only [h4', h5]

/-! ### What the loop's own object leaves alone -/
structure But (l : Nat) (H H' : AH) : Prop where
  next : H'.next = H.next
  oth : ∀ j, j ≠ l → H'.get j = H.get j
  was : ∃ r, H.get l = some (.loop r)
  is : ∃ r, H'.get l = some (.loop r)

theorem But.set {l : Nat} {H : AH} {r r' : ALoop} (h : H.get l = some (.loop r)) : But l H (H.set l (.loop r')) :=
  ⟨rfl, fun j hj => by rw [AH.get_set, if_neg hj], ⟨r, h⟩, ⟨r', by rw [AH.get_set, if_pos rfl]⟩⟩
theorem But.refl {l : Nat} {H : AH} {r : ALoop} (h : H.get l = some (.loop r)) : But l H H := ⟨rfl, fun _ _ => rfl, ⟨r, h⟩, ⟨r, h⟩⟩
theorem But.trans {l : Nat} {H H' H'' : AH} (h : But l H H') (h' : But l H' H'') : But l H H'' := ⟨h'.next.trans h.next, fun j hj => (h'.oth j hj).trans (h.oth j hj), h.was, h'.is⟩
theorem But.sym {l : Nat} {H H' : AH} (h : But l H H') : But l H' H := ⟨h.next.symm, fun j hj => (h.oth j hj).symm, h.is, h.was⟩
theorem But.row {l : Nat} {H H' : AH} (h : But l H H') {id : Nat} {r : Row} (hr : H.get id = some (.row r)) : H'.get id = some (.row r) := by
  rw [h.oth id (fun e => by subst e; obtain ⟨q, hq⟩ := h.was; rw [hq] at hr; cases hr)]
  exact hr
theorem But.grow {l : Nat} {H H' : AH} (h : But l H H') (e : Env) (tk : List Nat) : Grow e tk H e tk H' :=
  ⟨Nat.le_of_eq h.next.symm, fun _ _ h => h, fun id fam en _ hs => ⟨by rw [h.next]; exact hs.lt, by rw [h.next]; exact hs.flt, hs.x, hs.row, hs.tok⟩, fun id r n hr _ => ⟨r, h.row hr, Meta.refl r, fun _ _ => rfl⟩, fun k n hk => ⟨n, hk, Nat.le_refl _, fun _ => rfl⟩⟩
theorem But.wf {l : Nat} {H H' : AH} (h : But l H H') (hw : WF0 H) : WF0 H' := by
  refine ⟨fun id o ho => ?_, fun id r hr => ?_, esz_of hw fun id r hr => .inr ⟨id, r, h.sym.row hr, rfl, rfl, rfl⟩⟩
  · rw [h.next]
    by_cases e : id = l
    · subst e; obtain ⟨q, hq⟩ := h.was; exact hw.lt _ _ hq
    · rw [h.oth id e] at ho; exact hw.lt _ _ ho
  · rw [h.next]; exact hw.fam id r (h.sym.row hr)
theorem But.was_ne {l : Nat} {H H' : AH} (h : But l H H') {id : Nat} {o : AO} (h2 : H.get id = some o) (h3 : (∃ r, o = .row r) ∨ ∃ es c, o = .map es c) : id ≠ l := fun e1 => by
  subst e1
  obtain ⟨q, hq⟩ := h.was
  rw [hq] at h2; cases h2
  rcases h3 with ⟨r, e⟩ | ⟨es, c, e⟩ <;> cases e
theorem HInv.but {e : Env} {fr : List PRow} {tk : List Nat} {l : Nat} {H H' : AH} (hI : HInv e fr tk H) (h : But l H H') : HInv e fr tk H' :=
  ⟨h.wf hI.wf, hI.rlen, hI.rnd, fun k id R hk hR => by
    obtain ⟨o, h2, h3⟩ := (hI.row k id R hk hR).here
    exact (hI.row k id R hk hR).stay rfl (h.oth id (h.was_ne h2 h3)) fun us h8 => h8.grow (h.grow e tk), hI.tlen, hI.tsep, fun t τ ht => by rw [h.next]; exact hI.tlt t τ ht, hI.tfr⟩

def Ctx.to (C : Ctx) (H : AH) : Ctx := ⟨H, C.ids, C.toks, C.lims, C.X⟩

theorem RelH.but {C : Ctx} {e : Env} {fr : List PRow} {tk : List Nat} {l : Nat} {H H' H0' : AH} (h : RelH C e fr tk H) (b0 : But l C.H0 H0') (b : But l H H') (hl : H'.get l = H0'.get l) : RelH (C.to H0') e fr tk H' := by
  have hn : H0'.next = C.H0.next := b0.next
  refine ⟨h.inv.but b, ⟨?_, ?_, h.ext.old, h.ext.lim⟩, ⟨?_, fun id r hr hid => ?_, fun id o ho hnr hid => ?_, fun id hlt hno => ?_, fun id r hr => ?_⟩, ⟨b0.wf h.cw.wf, h.cw.len, fun id hid => by
    obtain ⟨o, q1, q2⟩ := h.cw.ids id hid
    exact ⟨o, (b0.oth id (b0.was_ne q1 q2)).trans q1, q2⟩⟩, ⟨?_, ?_⟩, h.x0⟩
  · obtain ⟨new, h1, h2⟩ := h.ext.rows
    exact ⟨new, h1, fun id hid => by show H0'.next ≤ id; rw [hn]; exact h2 id hid⟩
  · intro t τ ht
    rcases h.ext.tok t τ ht with h1 | h1
    · exact .inl h1
    · exact .inr (by show H0'.next ≤ _; rw [hn]; exact h1)
  · show H0'.next ≤ H'.next
    rw [hn, b.next]; exact h.frame.next
  · obtain ⟨r', k1, k2, k3, k4⟩ := h.frame.row id r (b0.sym.row hr) hid
    exact ⟨r', b.row k1, k2, k3, k4⟩
  · by_cases e1 : id = l
    · subst e1; rw [hl]; exact ho
    · rw [b.oth id e1]
      have ho' : H0'.get id = some o := ho
      rw [b0.oth id e1] at ho'
      exact h.frame.oth id o ho' hnr hid
  · have hno' : H0'.get id = none := hno
    have e1 : id ≠ l := fun e1 => by subst e1; obtain ⟨q, hq⟩ := b0.is; rw [hq] at hno'; cases hno'
    rw [b.oth id e1]
    rw [b0.oth id e1] at hno'
    exact h.frame.gone id (by rw [← hn]; exact hlt) hno'
  · rcases h.frame.fam id r (b.sym.row hr) with ⟨i0, r0, k1, k2⟩ | k
    · exact .inl ⟨i0, r0, b0.row k1, k2⟩
    · exact .inr (by show H0'.next ≤ _; rw [hn]; exact k)
  · intro id fam en h1 h2
    have h1' : H0'.next ≤ id := h1
    have h2' : H0'.next ≤ fam := h2
    exact h.x.new id fam en (by rw [← hn]; exact h1') (by rw [← hn]; exact h2')
  · intro t τ id en h1 h2
    have h2' : H0'.next ≤ id := h2
    exact h.x.tok t τ id en h1 (by rw [← hn]; exact h2')

theorem RelH.late {C : Ctx} {e : Env} {fr : List PRow} {tk : List Nat} {l : Nat} {H H' : AH} (h : RelH C e fr tk H) (b : But l H H') (hl : C.H0.next ≤ l) : RelH C e fr tk H' := by
  refine ⟨h.inv.but b, h.ext, ⟨by rw [b.next]; exact h.frame.next, fun id r hr hid => ?_, fun id o ho hnr hid => ?_, fun id hlt hno => ?_, fun id r hr => h.frame.fam id r (b.sym.row hr)⟩, h.cw, h.x, h.x0⟩
  · obtain ⟨r', k1, k2, k3, k4⟩ := h.frame.row id r hr hid
    exact ⟨r', b.row k1, k2, k3, k4⟩
  · have := h.cw.wf.lt id o ho
    rw [b.oth id (by omega)]; exact h.frame.oth id o ho hnr hid
  · rw [b.oth id (by omega)]; exact h.frame.gone id hlt hno

/-- an object that is no row, behind all others -/
theorem RelH.more {C : Ctx} {e : Env} {fr : List PRow} {tk : List Nat} {H : AH} (h : RelH C e fr tk H) (o : AO) (ho : ∀ r, o ≠ .row r) : RelH C e fr tk (H.more o) ∧ Grow e tk H e tk (H.more o) := by
  have hI := h.inv
  have hget : ∀ j, j < H.next → (H.more o).get j = H.get j := fun j hj => by rw [AH.get_more, if_neg (by omega)]
  have hn : (H.more o).next = H.next + 1 := rfl
  have hrow : ∀ {id : Nat} {r : Row}, H.get id = some (.row r) → (H.more o).get id = some (.row r) := fun hr => by rw [hget _ (hI.wf.lt _ _ hr)]; exact hr
  have hback : ∀ {id : Nat} {r : Row}, (H.more o).get id = some (.row r) → H.get id = some (.row r) := fun {id r} hr => by
    rw [AH.get_more] at hr
    split at hr
    · cases hr; exact absurd rfl (ho r)
    · exact hr
  have g : Grow e tk H e tk (H.more o) := ⟨by rw [hn]; omega, fun _ _ h => h, fun id fam en _ hs => ⟨by rw [hn]; have := hs.lt; omega, by rw [hn]; have := hs.flt; omega, hs.x, hs.row, hs.tok⟩, fun id r n hr _ => ⟨r, hrow hr, Meta.refl r, fun _ _ => rfl⟩, fun k n hk => ⟨n, hk, Nat.le_refl _, fun _ => rfl⟩⟩
  refine ⟨⟨⟨⟨fun id q hq => ?_, fun id r hr => ?_, esz_of hI.wf fun id r hr => .inr ⟨id, r, hback hr, rfl, rfl, rfl⟩⟩, hI.rlen, hI.rnd, fun k id R hk hR => ?_, hI.tlen, hI.tsep, fun t τ ht => by rw [hn]; have := hI.tlt t τ ht; omega, hI.tfr⟩, h.ext, ⟨by rw [hn]; have := h.frame.next; omega, fun id r hr hid => ?_, fun id q hq hnr hid => ?_, fun id hlt hno => ?_, fun id r hr => h.frame.fam id r (hback hr)⟩, h.cw, h.x, h.x0⟩, g⟩
  · rw [AH.get_more] at hq
    rw [hn]
    split at hq
    · omega
    · have := hI.wf.lt _ _ hq; omega
  · rw [hn]; have := hI.wf.fam id r (hback hr); omega
  · obtain ⟨o, h2, _⟩ := (hI.row k id R hk hR).here
    exact (hI.row k id R hk hR).stay rfl (hget _ (hI.wf.lt _ _ h2)) fun us h8 => h8.grow g
  · obtain ⟨r', k1, k2, k3, k4⟩ := h.frame.row id r hr hid
    exact ⟨r', hrow k1, k2, k3, k4⟩
  · have h1 := h.frame.oth id q hq hnr hid
    rw [hget _ (hI.wf.lt _ _ h1)]; exact h1
  · have := h.frame.next
    rw [hget _ (by omega)]; exact h.frame.gone id hlt hno

theorem RelH.next {C : Ctx} {e : Env} {fr : List PRow} {tk : List Nat} {H : AH} (h : RelH C e fr tk H) : XC e H := h.xc

/-! ### What calling the loop's function comes to -/
def fin (r : ALoop) (p : Option Code) : ALoop := { r with state := if p.isNone then .ready else .done, pending := p }
def Ctx.fin (C : Ctx) (l : Nat) (r : ALoop) : Option Code → Ctx
  | none => C
  | some c => C.to (C.H0.set l (.loop (Eng.fin r (some c))))

def Yields (P : Program) (O : Orc) (C : Ctx) (l : Nat) (r : ALoop) (xs : List PV) (fr : List PRow) (tk : List Nat) (K : Option Code → List PRow → List Nat → Prop) : Prop :=
  ∀ e H vs, RelH C e fr tk H → L2 (RV e tk H true) xs vs → r.params.length = vs.length ∧ ∃ act, putAll { tm := r.tm, n := r.n, marks := [] } (r.params.zip vs) = .ok act ∧
    WC P O (some l) r.assign act H (fun x act1 H1 => x = .normal ∧ ∃ r1, H1.get l = some (.loop r1) ∧ r1.state = .ready ∧
      WC P O (some l) r.body act1 (H1.set l (.loop { r1 with state := .busy })) (fun x _ H2 => ∃ r2, H2.get l = some (.loop r2) ∧
        ∃ e' fr' tk', RelH (C.fin l r (jumpOf x)) e' fr' tk' (H2.set l (.loop { r2 with state := if (jumpOf x).isNone then .ready else .done, pending := jumpOf x })) ∧
          Grow e tk H e' tk' (H2.set l (.loop { r2 with state := if (jumpOf x).isNone then .ready else .done, pending := jumpOf x })) ∧ K (jumpOf x) fr' tk'))

/-! ### The calculus of a function that a loop goes through -/
def PCY (P : Program) (O : Orc) (C : Ctx) (l : Nat) (r : ALoop) (c : Code) (s : PS) (Q : Option Code → AX → PS → Prop) : Prop :=
  ∀ e a H, RelA C e s a H → WC P O none c a H (fun x a' H' => ∃ p e' s', RelA (C.fin l r p) e' s' a' H' ∧ Q p x s')
def POY (P : Program) (O : Orc) (C : Ctx) (l : Nat) (r : ALoop) (all os : List Oper) (s : PS) (Q : Option Code → PS → Prop) : Prop :=
  ∀ e a H, RelA C e s a H → WO P O none all os a H (fun a' H' => ∃ p e' s', RelA (C.fin l r p) e' s' a' H' ∧ Q p s')

theorem rnd_none (C : Ctx) : RndOK none C := fun l h => by cases h

section y
variable {C : Ctx} {l : Nat} {r : ALoop} {s : PS} {Q : Option Code → AX → PS → Prop} {all os : List Oper}

/-- what comes behind: the loop goes on, or has been left -/
def goesY (P : Program) (O : Orc) (C : Ctx) (l : Nat) (r : ALoop) (z : Code) (Q : Option Code → AX → PS → Prop) : Option Code → PS → Prop
  | none, s => PCY P O C l r z s Q
  | some c, s => PC P O none z s (Q (some c))

theorem goesY.run {z : Code} {p : Option Code} {e : Env} {a : AAct} {H : AH} (h : goesY P O C l r z Q p s) (hR : RelA (C.fin l r p) e s a H) : WC P O none z a H (fun x a' H' => ∃ p e' s', RelA (C.fin l r p) e' s' a' H' ∧ Q p x s') := by
  cases p with
  | none => exact h e a H hR
  | some c => exact (h (C.fin l r (some c)) e a H hR (rnd_none _)).mono fun x a' H' ⟨e', s', h1, h2⟩ => ⟨some c, e', s', h1, h2⟩

theorem PCY.of {c : Code} (h : PC P O none c s (Q none)) : PCY P O C l r c s Q := fun e a H hR => (h C e a H hR (rnd_none _)).mono fun x a' H' ⟨e', s', h1, h2⟩ => ⟨none, e', s', h1, h2⟩
theorem PCY.weak {c : Code} {s' : PS} (h : Weak s s') (hq : PCY P O C l r c s' Q) : PCY P O C l r c s Q := fun e a H hR => let ⟨e', h1⟩ := h C e a H hR; hq e' a H h1
theorem PCY.assoc {x y z : Code} (h : PCY P O C l r (.seq x (.seq y z)) s Q) : PCY P O C l r (.seq (.seq x y) z) s Q := fun e a H hR => WC.assoc (h e a H hR)
theorem PCY.lone {x : Code} (h : PCY P O C l r (.seq x .skip) s Q) : PCY P O C l r x s Q := fun e a H hR => WC.lone (h e a H hR)
theorem PCY.noop {z : Code} (h : PCY P O C l r z s Q) : PCY P O C l r (.seq .skip z) s Q := fun e a H hR => WC.noop (h e a H hR)
theorem PCY.region {i : Nat} {ops : Array Oper} {z : Code} (h : POY P O C l r ops.toList ops.toList s (goesY P O C l r z Q)) : PCY P O C l r (.seq (.region i ops false) z) s Q := fun e a H hR =>
  WC.region ((h e a H hR).mono fun a' H' ⟨p, e', s', h1, h2⟩ => h2.run h1)
theorem PCY.cond {o : Operand} {x y z : Code} {b : Bool} (ho : s.ev o = some (.val (.bool b))) (ht : b = true → PCY P O C l r (.seq x z) s Q) (hf : b = false → PCY P O C l r (.seq y z) s Q) : PCY P O C l r (.seq (.cond o x y) z) s Q := fun e a H hR => by
  obtain ⟨v, h1, h2⟩ := hR.ev ho
  rw [h2.bool_inv] at h1
  exact WC.cond h1 (fun h => ht h e a H hR) (fun h => hf h e a H hR)
def loopKY (I : Nat → PS → Prop) (k : Nat) (Q : Option Code → AX → PS → Prop) : Option Code → AX → PS → Prop
  | none, .normal, s => ∃ k', k' < k ∧ I k' s
  | some _, .normal, _ => False
  | p, x, s => Q p x s
theorem PCY.loop {x : Code} (I : Nat → PS → Prop) (hI : ∀ k s, I k s → PCY P O C l r x s (loopKY I k Q)) (k : Nat) (h : I k s) : PCY P O C l r (.loop x) s Q := fun e a H hR => by
  refine WC.loop (fun k a H => ∃ e s, RelA C e s a H ∧ I k s) (fun k a H ⟨e, s, h1, h2⟩ => ?_) k ⟨e, s, hR, h⟩
  refine (hI k s h2 e a H h1).mono fun x a' H' ⟨p, e', s', k1, k2⟩ => ?_
  cases p with
  | none =>
    cases x with
    | normal => obtain ⟨k', k3, k4⟩ := k2; exact ⟨k', k3, e', s', k1, k4⟩
    | _ => exact ⟨none, e', s', k1, k2⟩
  | some c =>
    cases x with
    | normal => exact k2.elim
    | _ => exact ⟨some c, e', s', k1, k2⟩
def blockKY (P : Program) (O : Orc) (C : Ctx) (l : Nat) (r : ALoop) (id : Nat) (z : Code) (Q : Option Code → AX → PS → Prop) : Option Code → AX → PS → Prop
  | p, .normal, s => goesY P O C l r z Q p s
  | p, .exit j, s => if j = id then goesY P O C l r z Q p s else Q p (.exit j) s
  | p, x, s => Q p x s
theorem PCY.block {id : Nat} {x z : Code} (h : PCY P O C l r x s (blockKY P O C l r id z Q)) : PCY P O C l r (.seq (.block id x) z) s Q := fun e a H hR => by
  refine WC.block ((h e a H hR).mono fun x a' H' ⟨p, e', s', h1, h2⟩ => ?_)
  cases x with
  | normal => exact goesY.run h2 h1
  | exit j =>
    simp only [blockK]
    simp only [blockKY] at h2
    split
    · rename_i hj; rw [if_pos hj] at h2; exact goesY.run h2 h1
    · rename_i hj; rw [if_neg hj] at h2; exact ⟨p, e', s', h1, h2⟩
  | _ => exact ⟨p, e', s', h1, h2⟩

theorem POY.of {Q : Option Code → PS → Prop} (h : PO P O none all os s (Q none)) : POY P O C l r all os s Q := fun e a H hR => (h C e a H hR).mono fun a' H' ⟨e', s', h1, h2⟩ => ⟨none, e', s', h1, h2⟩
theorem POY.weak {Q : Option Code → PS → Prop} {s' : PS} (h : Weak s s') (hq : POY P O C l r all os s' Q) : POY P O C l r all os s Q := fun e a H hR => let ⟨e', h1⟩ := h C e a H hR; hq e' a H h1
theorem WO.append {rnd : Option Nat} {xs ys : List Oper} {a : AAct} {H : AH} {Q : AAct → AH → Prop} (h : WO P O rnd all xs a H (fun a1 H1 => WO P O rnd all ys a1 H1 Q)) : WO P O rnd all (xs ++ ys) a H Q := by
  obtain ⟨m, a1, H1, k1, m2, a2, H2, k4, k5⟩ := h
  refine ⟨Max.max m m2, a2, H2, ?_, k5⟩
  have key : ∀ (xs : List Oper) (a : AAct) (H : AH), aOps P (oRun P O (Max.max m m2)) rnd all xs a H = .ok (a1, H1) → aOps P (oRun P O (Max.max m m2)) rnd all ys a1 H1 = .ok (a2, H2) → aOps P (oRun P O (Max.max m m2)) rnd all (xs ++ ys) a H = .ok (a2, H2) := by
    intro xs
    induction xs with
    | nil => intro a H h1 h2; simp only [aOps] at h1; cases h1; exact h2
    | cons o xs ih =>
      intro a H h1 h2
      simp only [List.cons_append, aOps] at h1 ⊢
      obtain ⟨b, b1, b2⟩ := bok h1
      rw [b1]
      cases b with
      | true =>
        simp only [if_true] at b2
        show (match deferOf o.op with | some c => _ | none => _) = _
        cases hd : deferOf o.op with
        | some c =>
          rw [hd] at b2
          simp only at b2 ⊢
          split at b2
          · cases b2
          · rename_i hr
            obtain ⟨d, d1, d2⟩ := bok b2
            obtain ⟨a', a1', a2'⟩ := bok d2
            rw [if_neg hr, d1]
            show ((AAct.put ⟨a.tm, a.n, d :: a.marks⟩ o.dst undef) >>= fun a' => aOps P (oRun P O (Max.max m m2)) rnd all (xs ++ ys) a' H) = _
            rw [a1']
            exact ih a' H a2' h2
        | none =>
          rw [hd] at b2
          simp only at b2 ⊢
          obtain ⟨⟨v, Hv⟩, d1, d2⟩ := bok b2
          obtain ⟨a', a1', a2'⟩ := bok d2
          rw [d1]
          show ((a.put o.dst v) >>= fun a' => aOps P (oRun P O (Max.max m m2)) rnd all (xs ++ ys) a' Hv) = _
          rw [a1']
          exact ih a' Hv a2' h2
      | false =>
        simp only [Bool.false_eq_true, if_false] at b2
        obtain ⟨a', a1', a2'⟩ := bok b2
        show ((a.put o.dst undef) >>= fun a' => aOps P (oRun P O (Max.max m m2)) rnd all (xs ++ ys) a' H) = _
        rw [a1']
        exact ih a' H a2' h2
  exact key _ a H (ops_up (Nat.le_max_left m m2) k1) (ops_up (Nat.le_max_right m m2) k4)
theorem POY.cut {Q : Option Code → PS → Prop} (n : Nat) (J : PS → Prop) (h1 : PO P O none all (os.take n) s J) (h2 : ∀ s1, J s1 → POY P O C l r all (os.drop n) s1 Q) : POY P O C l r all os s Q := fun e a H hR => by
  rw [← List.take_append_drop n os]
  exact WO.append ((h1 C e a H hR).mono fun a' H' ⟨e', s', k1, k2⟩ => h2 s' k2 e' a' H' k1)

/-- what comes behind a call of the loop's function -/
def goesO (P : Program) (O : Orc) (C : Ctx) (l : Nat) (r : ALoop) (all os : List Oper) (Q : Option Code → PS → Prop) : Option Code → PS → Prop
  | none, s => POY P O C l r all os s Q
  | some c, s => PO P O none all os s (Q (some c))

theorem RelA.fin_r0 {p : Option Code} : (C.fin l r p).ids = C.ids ∧ (C.fin l r p).toks = C.toks ∧ (C.fin l r p).H0.next = C.H0.next := by
  cases p <;> exact ⟨rfl, rfl, rfl⟩

theorem rv_yield {e : Env} {tk : List Nat} {H : AH} {b : Bool} {l : Nat} {v : Value} (h : RV e tk H b (.val (.func (.yield l) #[] #[])) v) : v = .func (.yield l) #[] #[] := by cases h; rfl

def evAll (s : PS) : List Operand → Option (List PV)
  | [] => some []
  | o :: os => match s.ev o with
    | some p => match evAll s os with
      | some ps => some (p :: ps)
      | none => none
    | none => none

theorem RelA.evAll {e : Env} {a : AAct} {H : AH} (hR : RelA C e s a H) : ∀ {os : List Operand} {ps : List PV}, Eng.evAll s os = some ps → ∃ vs, allR a.eval os = .ok vs ∧ L2 (RV e s.tk H true) ps vs
  | [], ps, h => by cases h; exact ⟨[], rfl, L2.nil⟩
  | o :: os, ps, h => by
    simp only [Eng.evAll] at h
    cases h1 : s.ev o with
    | none => rw [h1] at h; cases h
    | some p =>
      rw [h1] at h
      cases h2 : Eng.evAll s os with
      | none => rw [h2] at h; cases h
      | some qs =>
        rw [h2] at h; cases h
        obtain ⟨v, k1, k2⟩ := hR.ev h1
        obtain ⟨vs, k3, k4⟩ := RelA.evAll hR h2
        exact ⟨v :: vs, allR_cons (AAct.ev_eval k1) k3, L2.cons k2 k4⟩

/-- a call of the loop's function -/
theorem POY.yield {Q : Option Code → PS → Prop} {o : Oper} {g : Operand} {xs : Array Operand} {tys : Array TypeId} {ps : List PV} {K : Option Code → List PRow → List Nat → Prop} (hC : C.H0.get l = some (.loop r)) (hst : r.state = .ready)
    (ho : o.op = .call ⟨.value g, xs, tys⟩) (hw : pWanted all s o = some true) (hg : s.ev g = some (.val (.func (.yield l) #[] #[]))) (hx : evAll s xs.toList = some ps) (hc : s.can o.dst = true) (hms : s.ms = [])
    (hY : Yields P O C l r ps s.fr s.tk K) (h : ∀ p fr' tk', K p fr' tk' → goesO P O C l r all os Q p ((s.mem fr' tk').upd o.dst (.val (.bool p.isNone)))) : POY P O C l r all (o :: os) s Q := fun e a H hR => by
  obtain ⟨v, k1, k2⟩ := hR.ev hg
  rw [rv_yield k2] at k1
  obtain ⟨vs, k3, k4⟩ := hR.evAll hx
  have hl : H.get l = some (.loop r) := hR.h.other hC (fun r e => by cases e) (fun _ _ e => by cases e)
  obtain ⟨hlen, act, h1, h2⟩ := hY e H vs hR.h k4
  have hmk : a.marks = [] := (hms ▸ hR.marks).none
  refine WO.yield ho (hR.wanted hw) k1 k3 (hR.can hc) hl hst hlen h1 (h2.mono fun x act1 H1 ⟨hx, r1, h3, h4, h5⟩ => ⟨hx, r1, h3, h4, ?_⟩)
  have hr1 : WC P O (some l) r.body act1 (H1.set l (.loop { r1 with state := .busy })) (fun x _ H2 => ∃ r2, H2.get l = some (.loop r2) ∧
        ∃ e' fr' tk', RelH (C.fin l r (jumpOf x)) e' fr' tk' (H2.set l (.loop { r2 with state := if (jumpOf x).isNone then .ready else .done, pending := jumpOf x })) ∧
          Grow e s.tk H e' tk' (H2.set l (.loop { r2 with state := if (jumpOf x).isNone then .ready else .done, pending := jumpOf x })) ∧ K (jumpOf x) fr' tk') := h5
  refine hr1.mono fun y _ H2 ⟨r2, h6, e', fr', tk', h7, h8, h9⟩ => ⟨r2, h6, ?_⟩
  have hq := h _ _ _ h9
  generalize jumpOf y = p at *
  generalize (H2.set l (.loop { r2 with state := if p.isNone then .ready else .done, pending := p })) = H3 at *
  have hR3 : RelA (C.fin l r p) e' ((s.mem fr' tk').upd o.dst (.val (.bool p.isNone))) (a.upd o.dst (.bool p.isNone)) H3 := by
    have hf := RelA.fin_r0 (C := C) (l := l) (r := r) (p := p)
    have base : RelA (C.fin l r p) e' (s.mem fr' tk') a H3 := ⟨h7, hR.n, by show MarksR _ s.ms a H3; rw [hms]; exact .nil hmk, by rw [hf.1]; exact hR.r0, by rw [hf.2.1]; exact hR.t0, fun t q ht => let ⟨v, m1, m2⟩ := hR.tm t q ht; ⟨v, m1, m2.grow h8⟩⟩
    have := base.upd (d := o.dst) (p := .val (.bool p.isNone)) (v := .bool p.isNone) (by have := hc; unfold PS.can at this ⊢; exact this) (Step.refl h7.inv) (.val rfl)
    exact this
  cases p with
  | none => exact (hq e' _ H3 hR3)
  | some c => exact (hq (C.fin l r (some c)) e' _ H3 hR3).mono fun a' H' ⟨e2, s2, m1, m2⟩ => ⟨some c, e2, s2, m1, m2⟩
end y

/-! ### A function that a loop goes through, as a list -/
def ISpec (P : Program) (O : Orc) (f : FuncId) (first cap : List PV) (ok : List PRow → Prop) (xs : List (List PV)) : Prop :=
  ∀ (l : Nat) (r : ALoop) (C : Ctx), C.H0.get l = some (.loop r) → r.state = .ready →
  ∀ (J : Nat → List PRow → List Nat → Prop) (D : Code → List PRow → List Nat → Prop),
    (∀ i fr tk, J i fr tk → fr.length = C.ids.length ∧ tk.length = C.toks.length ∧ ok fr) →
    (∀ i x fr tk, xs[i]? = some x → J i fr tk → Yields P O C l r x fr tk (fun p fr' tk' => match p with | none => J (i + 1) fr' tk' | some c => D c fr' tk')) →
    ∀ e fr tk H vs, RelH C e fr tk H → J 0 fr tk → L2 (RV e tk H true) (first ++ [.val (.func (.yield l) #[] #[])] ++ cap) vs →
      WF1 P O f vs H (fun v H' => ∃ p e' fr' tk', RelH (C.fin l r p) e' fr' tk' H' ∧ match p with | none => J xs.length fr' tk' | some c => D c fr' tk')

/-- where such a function ends -/
def retY (P : Program) (fn : Func) (K : Option Code → List PRow → List Nat → Prop) : Option Code → AX → PS → Prop := fun p x s => isRet x ∧ s.ms = [] ∧ (∃ q, pResults P s fn.results.toList = some q) ∧ K p s.fr s.tk

theorem PCY.enter {C : Ctx} {l : Nat} {r : ALoop} {f : FuncId} {fn : Func} {c : Code} {args : List PV} {fr : List PRow} {tk : List Nat} {e : Env} {H : AH} {vs : List Value} {K : Option Code → List PRow → List Nat → Prop} (hf : P.funcs[f]? = some fn) (hc : fn.body = some c) (hn : Nat.ble args.length fn.ntmps = true) (hm : Nat.ble args.length 1000000 = true)
    (hx : (fn.name == "runtime.NumGoroutine") = false) (h0 : nilKnown O f args = none) (hr : fr.length = C.ids.length) (ht : tk.length = C.toks.length) (hR : RelH C e fr tk H) (ha : L2 (RV e tk H true) args vs)
    (h : PCY P O C l r c (PS.start fn.ntmps args fr tk) (retY P fn K)) : WF1 P O f vs H (fun v H' => ∃ p e' fr' tk', RelH (C.fin l r p) e' fr' tk' H' ∧ K p fr' tk') := by
  rw [Nat.ble_eq] at hn hm
  refine WF1.call (bodyOf_mk hf hc (by rw [← ha.1]; exact hn) (by rw [← ha.1]; exact hm) hx) ?_ ?_
  · exact known_of h0 ha.1
  · refine (h e (startAct fn.ntmps vs) H ⟨hR, rfl, .nil rfl, hr.symm, ht.symm, fun t p ht => ?_⟩).mono fun x a' H' ⟨p, e', s', h1, h2, hms, ⟨q, h3⟩, h4⟩ => ?_
    · simp only [PS.start] at ht
      rw [start_get args 0 _ (by omega) t] at ht
      split at ht
      · obtain ⟨v, hv, hv'⟩ := ha.at ht
        refine ⟨v, ?_, hv'⟩
        unfold startAct
        simp only
        rw [start_get vs 0 _ (by rw [← ha.1]; omega) t, if_pos (by rw [← ha.1]; assumption)]
        exact hv
      · rw [T.get_full] at ht; cases ht
    · obtain ⟨v, k1, k2⟩ := h1.results h3
      refine ⟨?_, (hms ▸ h1.marks).none, v, k1, p, e', s'.fr, s'.tk, h1.h, h4⟩
      cases x <;> first | exact .inl rfl | exact .inr rfl | exact h2.elim

/-! ### The loop -/
def putPs : PS → List (Tmp × PV) → Option PS
  | s, [] => some s
  | s, (t, p) :: l => pick (s.can (some t)) (putPs (s.upd (some t) p) l) none

theorem putPs_ok {C : Ctx} {e : Env} {H : AH} : ∀ {ts : List Tmp} {ps : List PV} {vs : List Value} {s s0 : PS} {act : AAct}, RelA C e s act H → ts.length = ps.length → L2 (RV e s.tk H true) ps vs → putPs s (ts.zip ps) = some s0 → ∃ act', putAll act (ts.zip vs) = .ok act' ∧ RelA C e s0 act' H
  | [], ps, vs, s, s0, act, hR, hl, hv, h => by
    cases ps with
    | cons p l => cases hl
    | nil =>
      have := hv.cases_nil; subst this
      cases h
      exact ⟨act, rfl, hR⟩
  | t :: ts, ps, vs, s, s0, act, hR, hl, hv, h => by
    cases ps with
    | nil => cases hl
    | cons p ps =>
      obtain ⟨v, vs', rfl, h1, h2⟩ := hv.cases_cons
      have h' : pick (s.can (some t)) (putPs (s.upd (some t) p) (ts.zip ps)) none = some s0 := h
      obtain ⟨hcan, h'⟩ := pick_some h'
      have hR' := hR.upd hcan (Step.refl hR.h.inv) h1
      have hm : s.mem s.fr s.tk = s := by cases s; rfl
      rw [hm] at hR'
      have htk : (s.upd (some t) p).tk = s.tk := by cases s; rfl
      obtain ⟨act', k1, k2⟩ := putPs_ok (ts := ts) (vs := vs') hR' (by simpa using hl) (by rw [htk]; exact h2) h'
      refine ⟨act', ?_, k2⟩
      show ((act.put (some t) v) >>= fun b => putAll b (ts.zip vs')) = _
      rw [AAct.put_can (hR.can hcan)]
      exact k1

theorem PC.rangeFunc {rnd : Option Nat} {g : Operand} {params : Array Tmp} {assign body z : Code} {s : PS} {Q : AX → PS → Prop} {f : FuncId} {first cap : List PV} {ok : List PRow → Prop} {xs : List (List PV)} (hg : s.ev g = some (.fn f first cap)) (hI : ISpec P O f first cap ok xs) (hp : ∀ (i : Nat) (x : List PV), xs[i]? = some x → params.toList.length = x.length) (hms : rnd = none → s.ms = [none])
    (J : Nat → List PRow → List Nat → Prop) (D : AX → List PRow → List Nat → Prop) (hJ : ∀ i fr tk, J i fr tk → fr.length = s.fr.length ∧ tk.length = s.tk.length ∧ ok fr) (h0 : J 0 s.fr s.tk)
    (hbody : ∀ (i : Nat) (x : List PV) (fr : List PRow) (tk : List Nat) (l : Nat), xs[i]? = some x → J i fr tk → ∃ s0, putPs ⟨s.tm, s.n, fr, tk, s.fr.length, s.tk.length, []⟩ (params.toList.zip x) = some s0 ∧
      PC P O (some l) assign s0 (fun y s1 => y = .normal ∧ PC P O (some l) body s1 (fun y s2 => match y with | .normal => J (i + 1) s2.fr s2.tk | y => D y s2.fr s2.tk)))
    (hend : ∀ fr tk, J xs.length fr tk → PC P O rnd z ⟨s.tm, s.n, fr, tk, s.r0, s.t0, s.ms⟩ Q)
    (hout : ∀ y fr tk, D y fr tk → y ≠ .normal → ∃ s', Weak ⟨s.tm, s.n, fr, tk, s.r0, s.t0, s.ms⟩ s' ∧ Q y s') : PC P O rnd (.seq (.rangeFunc g params assign body) z) s Q := fun C e a H hR hX => by
  obtain ⟨v, hv1, hv2⟩ := hR.ev hg
  cases hv2 with
  | @fn _ _ _ _ fvs cvs hfl hf hcl hc =>
  -- the loop's object, and its mark
  obtain ⟨a1, H1, l, r, hb, hr, hrel, hg1, hl, hfree, hmk⟩ : ∃ a1 H1 l r, Begun params.toList assign body rnd a H a1 H1 l r ∧ r = loopR a params.toList assign body r.mark ∧ RelH C e s.fr s.tk H1 ∧ Grow e s.tk H e s.tk H1 ∧ H1.get l = some (.loop r) ∧ H.next ≤ l ∧
      (∀ H3, (∀ m, m ≠ l → H1.get m = some (.mark true) → H3.get m = some (.mark true)) → MarksR C.H0.next (s.ms) a1 H3) ∧ a1.tm = a.tm ∧ a1.n = a.n := by
    cases rnd with
    | none =>
      obtain ⟨m1, m2⟩ := hR.h.more (.mark true) (fun r e => by cases e)
      obtain ⟨m3, m4⟩ := m1.more (.loop (loopR a params.toList assign body H.next)) (fun r e => by cases e)
      have gg : Grow e s.tk H e s.tk ((H.more (.mark true)).more (.loop (loopR a params.toList assign body H.next))) :=
        ⟨Nat.le_trans m2.next m4.next, fun _ _ h => h, fun id fam en _ hs => ⟨Nat.lt_of_lt_of_le hs.lt (Nat.le_trans m2.next m4.next), Nat.lt_of_lt_of_le hs.flt (Nat.le_trans m2.next m4.next), hs.x, hs.row, hs.tok⟩, fun id q n hq hs => by
          have hlt := hR.h.inv.wf.lt _ _ hq
          refine ⟨q, ?_, Meta.refl q, fun _ _ => rfl⟩
          rw [AH.get_more, if_neg (by show id ≠ H.next + 1; omega), AH.get_more, if_neg (by omega)]
          exact hq, fun k n hk => ⟨n, hk, Nat.le_refl _, fun _ => rfl⟩⟩
      refine ⟨_, _, _, _, .free a H, rfl, m3, gg, by rw [AH.get_more]; exact if_pos rfl, Nat.le_succ _, fun H3 h3 => ?_, rfl, rfl⟩
      have hm1 : ((H.more (.mark true)).more (.loop (loopR a params.toList assign body H.next))).get H.next = some (.mark true) := by
        rw [AH.get_more, if_neg (by show H.next ≠ H.next + 1; omega), AH.get_more, if_pos rfl]
      have hold : ∀ m, H.get m = some (.mark true) → H3.get m = some (.mark true) := fun m hm => by
        have hlt := hR.h.inv.wf.lt _ _ hm
        refine h3 m (by omega) ?_
        rw [AH.get_more, if_neg (by show m ≠ H.next + 1; omega), AH.get_more, if_neg (by omega)]
        exact hm
      have hmr := hR.marks
      rw [hms rfl] at hmr ⊢
      have hall : ∀ d ∈ a.marks, MarkR C.H0.next a H none d := hmr.rel
      have hlt : ∀ (i m : Nat), a.marks[i]? = some (.mark m) → m < H.next := fun i m hi => by
        have := hall _ (List.mem_of_getElem? hi)
        exact hR.h.inv.wf.lt _ _ this.2
      refine ⟨fun d hd => ?_, fun i j m hi hj => ?_⟩
      · rcases List.mem_cons.1 hd with e1 | hd
        · subst e1; exact ⟨hR.h.frame.next, h3 _ (by omega) hm1⟩
        · have hxy := hall d hd
          cases d with
          | mark m => exact ⟨hxy.1, hold _ hxy.2⟩
          | call f vs => exact hxy.elim
      · cases i with
        | zero =>
          cases j with
          | zero => rfl
          | succ j =>
            simp only [List.getElem?_cons_zero, List.getElem?_cons_succ, Option.some.injEq, ADef.mark.injEq] at hi hj
            have := hlt j m hj; omega
        | succ i =>
          cases j with
          | zero =>
            simp only [List.getElem?_cons_zero, List.getElem?_cons_succ, Option.some.injEq, ADef.mark.injEq] at hi hj
            have := hlt i m hi; omega
          | succ j => rw [hmr.nd i j m (by simpa using hi) (by simpa using hj)]
    | some lp =>
      obtain ⟨r0, hr0⟩ := hX lp rfl
      have hr0' : H.get lp = some (.loop r0) := hR.h.other hr0 (fun r e => by cases e) (fun _ _ e => by cases e)
      obtain ⟨m3, m4⟩ := hR.h.more (.loop (loopR a params.toList assign body r0.mark)) (fun r e => by cases e)
      refine ⟨_, _, _, _, .within a H lp r0 hr0', rfl, m3, m4, by rw [AH.get_more]; exact if_pos rfl, Nat.le_refl _, fun H3 h3 => ?_, rfl, rfl⟩
      refine hR.marks.step fun m hm => ?_
      have hlt := hR.h.inv.wf.lt _ _ hm
      refine h3 m (by omega) ?_
      rw [AH.get_more, if_neg (by omega)]
      exact hm
  obtain ⟨hmk, ha1, hn1⟩ := hmk
  have hready : r.state = .ready := by rw [hr]; rfl
  have hpar : r.params = params.toList := by rw [hr]; rfl
  have hasg : r.assign = assign := by rw [hr]; rfl
  have hbod : r.body = body := by rw [hr]; rfl
  have hrtm : r.tm = a.tm := by rw [hr]; rfl
  have hrn : r.n = a.n := by rw [hr]; rfl
  have hI1 := hrel.inv
  have hstart : RelH (ctx e s.tk H1) e s.fr s.tk H1 := RelH.start hI1 hrel.xc
  have hrow : ∀ {e' : Env} {fr' : List PRow} {tk' : List Nat} {H' : AH}, RelH (ctx e s.tk H1) e' fr' tk' H' → Grow e s.tk H1 e' tk' H' := fun h => grow_of h.ext h.frame h.x0 hI1.tlen
  refine WC.rangeFunc hb hv1 ?_
  have hargs : L2 (RV e s.tk H1 true) (first ++ [.val (.func (.yield l) #[] #[])] ++ cap) (fvs.toArray.toList ++ [.func (.yield l) #[] #[]] ++ cvs.toArray.toList) := by
    have k1 : L2 (RV e s.tk H true) first fvs := ⟨hfl, hf⟩
    have k2 : L2 (RV e s.tk H true) cap cvs := ⟨hcl, hc⟩
    simpa using ((k1.grow hg1).append (L2.cons (.val rfl) L2.nil)).append (k2.grow hg1)
  refine (hI l r (ctx e s.tk H1) hl hready J (fun c fr tk => ∃ y, jumpOf y = some c ∧ D y fr tk) (fun i fr tk hj => ?_) (fun i x fr tk hx hj => ?_) e s.fr s.tk H1 _ hstart h0 hargs).mono fun v H2 ⟨p, e', fr', tk', k1, k2⟩ => ?_
  · obtain ⟨b1, b2, b3⟩ := hJ i fr tk hj
    exact ⟨b1.trans hI1.rlen.symm, b2.trans hI1.tlen.symm, b3⟩
  · -- a round
    intro e0 H0 vs hR0 hvs
    obtain ⟨b1, b2, b3⟩ := hJ i fr tk hj
    obtain ⟨s0, hs0, hpc⟩ := hbody i x fr tk l hx hj
    have hl0 : H0.get l = some (.loop r) := hR0.other hl (fun r e => by cases e) (fun _ _ e => by cases e)
    have hI0 := hR0.inv
    have gr := hrow hR0
    have hR1 : RelA (ctx e0 tk H0) e0 ⟨s.tm, s.n, fr, tk, s.fr.length, s.tk.length, []⟩ { tm := r.tm, n := r.n, marks := [] } H0 :=
      ⟨RelH.start hI0 hR0.xc, by rw [hrn]; exact hR.n, .nil rfl, by show e0.rows.length = s.fr.length; rw [hI0.rlen, b1], by show e0.toks.length = s.tk.length; rw [hI0.tlen, b2], fun t q ht => by
        obtain ⟨u, m1, m2⟩ := hR.tm t q ht
        exact ⟨u, by rw [hrtm]; exact m1, (m2.grow hg1).grow gr⟩⟩
    obtain ⟨act, m1, m2⟩ := putPs_ok hR1 (hp i x hx) hvs hs0
    have hlx : r.params.length = vs.length := by rw [hpar, hp i x hx]; exact hvs.1
    refine ⟨hlx, act, by rw [hpar]; exact m1, ?_⟩
    rw [hasg]
    have hrnd : RndOK (some l) (ctx e0 tk H0) := fun l' hl' => by cases hl'; exact ⟨r, hl0⟩
    refine (hpc (ctx e0 tk H0) e0 act H0 m2 hrnd).mono fun y act1 H1' ⟨e1, s1, n1, hy, n2⟩ => ⟨hy, r, n1.h.other hl0 (fun r e => by cases e) (fun _ _ e => by cases e), hready, ?_⟩
    have hl1 : H1'.get l = some (.loop r) := n1.h.other hl0 (fun r e => by cases e) (fun _ _ e => by cases e)
    rw [← hbod] at n2
    -- the body, with the loop marked busy
    have bb0 : But l (ctx e0 tk H0).H0 (H0.set l (.loop { r with state := .busy })) := But.set hl0
    have bb1 : But l H1' (H1'.set l (.loop { r with state := .busy })) := But.set hl1
    have n1' : RelA ((ctx e0 tk H0).to (H0.set l (.loop { r with state := .busy }))) e1 s1 act1 (H1'.set l (.loop { r with state := .busy })) :=
      ⟨n1.h.but bb0 bb1 (by rw [AH.get_set, AH.get_set, if_pos rfl, if_pos rfl]), n1.n, n1.marks.step fun m hm => by rw [AH.get_set, if_neg (fun e => by subst e; rw [hl1] at hm; cases hm)]; exact hm, n1.r0, n1.t0, fun t q ht => let ⟨u, o1, o2⟩ := n1.tm t q ht; ⟨u, o1, o2.grow (bb1.grow _ _)⟩⟩
    refine (n2 _ e1 act1 _ n1' (fun l' hl' => by cases hl'; exact ⟨_, by show (H0.set l _).get l = _; rw [AH.get_set, if_pos rfl]⟩)).mono fun y2 act2 H2' ⟨e2, s2, q1, q2⟩ => ?_
    have hl2 : H2'.get l = some (.loop { r with state := .busy }) := q1.h.other (by show (H0.set l _).get l = _; rw [AH.get_set, if_pos rfl]) (fun r e => by cases e) (fun _ _ e => by cases e)
    refine ⟨_, hl2, e2, s2.fr, s2.tk, ?_, ?_, ?_⟩
    · have b2' : But l H2' (H2'.set l (.loop r)) := But.set hl2
      have w1 : RelH (ctx e0 tk H0) e2 s2.fr s2.tk (H2'.set l (.loop r)) := by
        have := q1.h.but (H0' := H0) (l := l) bb0.sym b2' (by rw [AH.get_set, if_pos rfl, hl0])
        exact this
      have w2 : RelH (ctx e s.tk H1) e2 s2.fr s2.tk (H2'.set l (.loop r)) := hR0.step w1.back
      have b3' : But l (H2'.set l (.loop r)) (H2'.set l (.loop { r with state := if (jumpOf y2).isNone then .ready else .done, pending := jumpOf y2 })) := b2'.sym.trans (But.set hl2)
      cases hj2 : jumpOf y2 with
      | none =>
        rw [hj2] at b3'
        refine w2.but (H0' := H1) (But.refl hl) b3' ?_
        rw [AH.get_set, if_pos rfl, hl, hr]; rfl
      | some c =>
        rw [hj2] at b3'
        refine w2.but (But.set hl) b3' ?_
        rw [AH.get_set, if_pos rfl, AH.get_set, if_pos rfl]; rfl
    · have b2' : But l H2' (H2'.set l (.loop r)) := But.set hl2
      have w1 : RelH (ctx e0 tk H0) e2 s2.fr s2.tk (H2'.set l (.loop r)) := q1.h.but (H0' := H0) (l := l) bb0.sym b2' (by rw [AH.get_set, if_pos rfl, hl0])
      have b3' : But l (H2'.set l (.loop r)) (H2'.set l (.loop { r with state := if (jumpOf y2).isNone then .ready else .done, pending := jumpOf y2 })) := b2'.sym.trans (But.set hl2)
      have g1 := w1.back.grow hI0
      have g2 := b3'.grow e2 s2.tk
      exact ⟨Nat.le_trans g1.next g2.next, g1.rows, fun id fam en ho hs => ⟨by rw [b3'.next]; exact (g1.stay id fam en ho hs).lt, by rw [b3'.next]; exact (g1.stay id fam en ho hs).flt, (g1.stay id fam en ho hs).x, (g1.stay id fam en ho hs).row, (g1.stay id fam en ho hs).tok⟩, fun id q n hq hs => by
        obtain ⟨q', c1, c2, c3⟩ := g1.row id q n hq hs
        exact ⟨q', b3'.row c1, c2, c3⟩, g1.tok⟩
    · cases y2 with
      | normal => exact q2
      | ret => exact ⟨.ret, rfl, q2⟩
      | exit id => exact ⟨.exit id, rfl, q2⟩
      | goto id => exact ⟨.goto id, rfl, q2⟩
  · -- behind the loop
    have hlC : ∃ r2, H2.get l = some (.loop r2) ∧ (r2.state == .busy) = false ∧ r2.pending = p := by
      cases p with
      | none => exact ⟨r, k1.other hl (fun r e => by cases e) (fun _ _ e => by cases e), by rw [hready]; rfl, by rw [hr]; rfl⟩
      | some c => exact ⟨Eng.fin r (some c), k1.other (by show (H1.set l _).get l = _; rw [AH.get_set, if_pos rfl]) (fun r e => by cases e) (fun _ _ e => by cases e), rfl, rfl⟩
    obtain ⟨r2, hl2, hb2, hp2⟩ := hlC
    refine ⟨r2, hl2, hb2, ?_⟩
    rw [hp2]
    have bl : But l H2 (H2.set l (.loop r)) := But.set hl2
    have w0 : RelH (ctx e s.tk H1) e' fr' tk' (H2.set l (.loop r)) := by
      cases p with
      | none => exact k1.but (H0' := H1) (But.refl hl) bl (by rw [AH.get_set, if_pos rfl, hl])
      | some c => exact k1.but (H0' := H1) (But.set hl).sym bl (by rw [AH.get_set, if_pos rfl, hl])
    have w1 : RelH C e' fr' tk' (H2.set l (.loop r)) := hrel.step w0.back
    have b3 : But l (H2.set l (.loop r)) (H2.set l (.loop { r2 with state := .exhausted, pending := p })) := bl.sym.trans (But.set hl2)
    have hlC : C.H0.next ≤ l := Nat.le_trans hR.h.frame.next hfree
    have w2 := w1.late b3 hlC
    have gr := hrow w0
    have hR3 : RelA C e' ⟨s.tm, s.n, fr', tk', s.r0, s.t0, s.ms⟩ a1 (H2.set l (.loop { r2 with state := .exhausted, pending := p })) := by
      refine ⟨w2, by rw [hn1]; exact hR.n, hmk _ fun m hml hm => ?_, hR.r0, hR.t0, fun t q ht => ?_⟩
      · have := w0.other hm (fun r e => by cases e) (fun _ _ e => by cases e)
        rw [b3.oth m hml]; exact this
      · obtain ⟨u, m1, m2⟩ := hR.tm t q ht
        exact ⟨u, by rw [ha1]; exact m1, ((m2.grow hg1).grow gr).grow (b3.grow _ _)⟩
    cases p with
    | none => exact hend fr' tk' k2 C e' a1 _ hR3 hX
    | some c =>
      obtain ⟨y, hy, hd⟩ := k2
      obtain ⟨s', hw9, hq9⟩ := hout y fr' tk' hd (fun e => by subst e; cases hy)
      obtain ⟨e9, hR9⟩ := hw9 _ _ _ _ hR3
      exact WC.jump hy ⟨e9, s', hR9, hq9⟩

end
end Go.Eng
