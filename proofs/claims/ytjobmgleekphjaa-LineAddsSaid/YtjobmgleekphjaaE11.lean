/-
  Calls of functions, rounds of loops over functions: the abstract machine goes along with the model.
-/
import Derived.Test.YtjobmgleekphjaaE10
set_option linter.unusedSimpArgs false
namespace Go.Eng
noncomputable section
variable {P : Program}

/-- the fence that lets all in, in a round or not -/
def WF (r : Option Nat) : Fence := { Fence.wide with round := r }

theorem WF_fn (r : Option Nat) (f : FuncId) : (WF r).fn f := trivial
theorem WF_depth (r : Option Nat) : (WF r).depth = none := rfl
theorem WF_room (r : Option Nat) (n : Nat) : (WF r).room n := fun d h => by cases h

/-- a deferred call, or a mark among them -/
def DefR (ρ : Ren) : ADef → Deferred → Prop
  | .mark m, d => ∃ pl, ρ m = some pl ∧ d = { target := .collected pl.blk, args := #[] }
  | .call f l, d => ∃ cap args, d = { target := .fn (.func f) cap, args := args } ∧ LR ρ l (args.toList ++ cap.toList)

def MR (ρ : Ren) (ms : List ADef) (ds : List Deferred) : Prop := ms.length = ds.length ∧ ∀ (i : Nat) (m : ADef) (d : Deferred), ms[i]? = some m → ds[i]? = some d → DefR ρ m d

structure AR (ρ : Ren) (a : AAct) (ca : Act) : Prop where
  tm : TR ρ a.tm a.n ca.tmps
  marks : MR ρ a.marks ca.defers

def RR (ρ : Ren) (r rc : Option Nat) : Prop := match r, rc with
  | none, none => True
  | some l, some b => ∃ pl, ρ l = some pl ∧ pl.blk = b
  | _, _ => False

def convX : AX → Exit
  | .normal => .normal
  | .exit id => .exit id
  | .goto l => .goto l
  | .ret => .ret

def CallPost (ρ : Ren) (H : AH) (W : World) (v : Value) (H' : AH) (e : Ending) (W' : World) : Prop := ∃ ρ' v', e = .returned v' ∧ St ρ H W ρ' H' W' ∧ VR ρ' v v'

def CodePost (ρ : Ren) (H : AH) (W : World) (x : AX) (a' : AAct) (H' : AH) (x' : Exit) (ca' : Act) (W' : World) : Prop := x' = convX x ∧ ∃ ρ', St ρ H W ρ' H' W' ∧ AR ρ' a' ca'

structure RecOK (P : Program) (rec : Rec) : Prop where
  call : ∀ f args H v H', rec (.call f args) H = .ok (.val v, H') → (∃ fn c, P.funcs[f]? = some fn ∧ fn.body = some c ∧ (fn.name == "runtime.NumGoroutine") = false) ∧
    ∀ ρ W args' n, Rel ρ H W → LR ρ args args' → CallsIn (WF none) n P f args'.toArray W (CallPost ρ H W v H')
  code : ∀ r c a H x a' H', rec (.code r c a) H = .ok (.out x a', H') → ∀ ρ W ca rc n, Rel ρ H W → AR ρ a ca → RR ρ r rc → c.wpIn (WF rc) n P (CodePost ρ H W x a' H') ca W
  callVal : ∀ f args H x a H', rec (.call f args) H ≠ .ok (.out x a, H')
  codeOut : ∀ r c a H v H', rec (.code r c a) H ≠ .ok (.val v, H')

theorem DefR.mono {ρ ρ' : Ren} (h : ρ.le ρ') {m : ADef} {d : Deferred} (hm : DefR ρ m d) : DefR ρ' m d := by
  cases m with
  | mark m => obtain ⟨pl, p, q⟩ := hm; exact ⟨pl, h _ _ p, q⟩
  | call f l => obtain ⟨cap, args, e, hl⟩ := hm; exact ⟨cap, args, e, hl.mono h⟩
theorem MR.mono {ρ ρ' : Ren} (h : ρ.le ρ') {ms : List ADef} {ds : List Deferred} (hm : MR ρ ms ds) : MR ρ' ms ds :=
  ⟨hm.1, fun i m d a b => (hm.2 i m d a b).mono h⟩
theorem MR.cons {ρ : Ren} {ms : List ADef} {ds : List Deferred} (h : MR ρ ms ds) {m : ADef} {d : Deferred} (hp : DefR ρ m d) : MR ρ (m :: ms) (d :: ds) := by
  refine ⟨by simp [h.1], fun i m' d' h1 h2 => ?_⟩
  cases i with
  | zero => simp at h1 h2; subst h1; subst h2; exact hp
  | succ i => exact h.2 i m' d' (by simpa using h1) (by simpa using h2)
theorem AR.mono {ρ ρ' : Ren} (h : ρ.le ρ') {a : AAct} {ca : Act} (ha : AR ρ a ca) : AR ρ' a ca := ⟨ha.tm.mono h, ha.marks.mono h⟩
theorem RR.mono {ρ ρ' : Ren} (h : ρ.le ρ') {r rc : Option Nat} (hr : RR ρ r rc) : RR ρ' r rc := by
  cases r <;> cases rc <;> first | exact hr | skip
  obtain ⟨pl, a, b⟩ := hr
  exact ⟨pl, h _ _ a, b⟩

theorem AR.eval {ρ : Ren} {a : AAct} {ca : Act} (h : AR ρ a ca) (x : Operand) : OpE a ca ρ x := fun u hu => by
  cases x with
  | tmp t => simp only [AAct.eval] at hu; cases hu; exact h.tm.2 t
  | const v =>
    simp only [AAct.eval] at hu
    split at hu
    · cases hu; exact gnd_refl _ (by assumption)
    · cases hu
  | global g => simp [AAct.eval] at hu
  | func f =>
    simp only [AAct.eval] at hu
    cases hu
    exact .func rfl (by intro i v v' h; simp at h) rfl (by intro i v v' h; simp at h)

theorem TR.put {ρ : Ren} {tm : T Value} {n : Nat} {tmps : Array Value} (h : TR ρ tm n tmps) {d : Nat} (hd : d < n) (hn : n < 281474976710655) {v v' : Value} (hv : VR ρ v v') : TR ρ (T.put AH.top tm d v) n (tmps.setIfInBounds d v') := by
  refine ⟨by simp [h.1], fun t => ?_⟩
  rw [show (T.put AH.top tm d v).get t = if t = d then some v else tm.get t from T.get_put 48 _ _ _ _ (by have : 2 ^ 48 = 281474976710656 := rfl; omega)]
  have hsz := h.1
  by_cases e : t = d
  · subst e
    have : (tmps.setIfInBounds t v').getD t Go.undef = v' := by
      simp [Array.getD_eq_getD_getElem?, hsz, hd]
    rw [this]
    simpa using hv
  · rw [if_neg e]
    have : (tmps.setIfInBounds d v').getD t Go.undef = tmps.getD t Go.undef := by
      simp only [Array.getD_eq_getD_getElem?]
      rw [Array.getElem?_setIfInBounds_ne (fun h => e h.symm)]
    rw [this]
    exact h.2 t

theorem AR.put {ρ : Ren} {a a' : AAct} {ca : Act} (h : AR ρ a ca) {d : Option Tmp} {v v' : Value} (hp : a.put d v = .ok a') (hv : VR ρ v v') : AR ρ a' (ca.put d v') := by
  rw [AAct.put_eq] at hp
  cases d with
  | none => cases hp; exact h
  | some d =>
    simp only at hp
    split at hp
    · rename_i hd
      cases hp
      exact ⟨h.tm.put hd.1 hd.2 hv, h.marks⟩
    · cases hp

theorem put_n {a a' : AAct} {d : Option Tmp} {v : Value} (hp : a.put d v = .ok a') : a'.n = a.n ∧ a'.marks = a.marks := by
  rw [AAct.put_eq] at hp
  cases d with
  | none => cases hp; exact ⟨rfl, rfl⟩
  | some d =>
    simp only at hp
    split at hp
    · cases hp; exact ⟨rfl, rfl⟩
    · cases hp

/-- what a loop's record is -/
theorem loop_at {ρ : Ren} {H : AH} {W : World} (h : Rel ρ H W) {l : Nat} {r : ALoop} {pl : Pl} (hl : H.get l = some (.loop r)) (hp : ρ l = some pl) :
    ∃ fn tmps pm, W.heap[pl.blk]? = some (.loop { state := r.state, pending := r.pending, fn := fn, tmps := tmps, params := r.params.toArray, assign := r.assign, body := r.body, defers := pm.blk }) ∧ TR ρ r.tm r.n tmps ∧ ρ r.mark = some pm := by
  obtain ⟨p0, hp0, _, hor⟩ := h.obj l _ hl
  rw [hp] at hp0; cases hp0
  exact hor

theorem run_getLoop' {W : World} {b : Nat} {r : Loop} (h : W.heap[b]? = some (.loop r)) : (Instr.getLoop b).run P W = .ok r W := by
  unfold Instr.getLoop
  simp only [Sem.run_bind, run_getObj' h (by intro c t f e; cases e), Result.andThen, Sem.run_pure]

/-- a loop's record is turned: its state and its pending jump -/
theorem St.setLoop {ρ : Ren} {H : AH} {W : World} (h : Rel ρ H W) {l : Nat} {r r' : ALoop} {pl : Pl} (hl : H.get l = some (.loop r)) (hp : ρ l = some pl) {fn : FuncId} {tmps : Array Value} {pm : Pl}
    (h1 : TR ρ r'.tm r'.n tmps) (h2 : ρ r'.mark = some pm) :
    St ρ H W ρ (H.set l (.loop r')) { W with heap := W.heap.setIfInBounds pl.blk (.loop { state := r'.state, pending := r'.pending, fn := fn, tmps := tmps, params := r'.params.toArray, assign := r'.assign, body := r'.body, defers := pm.blk }) } := by
  obtain ⟨p0, hp0, hblt, _⟩ := h.obj l _ hl
  rw [hp] at hp0; cases hp0
  refine St.setObj h hl rfl hp _ ⟨fn, tmps, pm, ?_, h1, h2⟩
  simp [hblt]

theorem about_any (F : Fence) (hF : ∀ f, F.fn f) (o : Oper) (w : World) (ev : Operand → Value) : ∀ f, o.about P w ev = some f → F.fn f := fun f _ => hF f

theorem exec_value {cf : Operand} {args : Array Operand} {ats : Array TypeId} {ca : Act} {W : World} {d : Option Tmp} {ty : TypeId} {ps : String} {af : Array Edge} {gu : Option (Nat × Bool)} {g : FuncId} {first cap : Array Value} {fn : Func} {c : Code}
    (hf : ca.eval cf = .func (.func g) first cap) (h1 : P.funcs[g]? = some fn) (h2 : fn.body = some c) (h3 : (fn.name == "runtime.NumGoroutine") = false) :
    (execOp ca.eval ⟨d, .call ⟨.value cf, args, ats⟩, ty, ps, af, gu⟩).run P W = .ok (.enter g (first.toList ++ args.toList.map ca.eval ++ cap.toList).toArray) W := by
  have e : first ++ args.map ca.eval ++ cap = (first.toList ++ args.toList.map ca.eval ++ cap.toList).toArray := by
    apply Array.ext'; simp
  simp only [execOp, resolve, hf, Deferred.ofValue, Sem.run_bind, Sem.run_pure, Result.andThen, invoke, callFunc, run_program, h1, h3, h2, Bool.false_eq_true, if_false, Option.isNone_some, e]

theorem exec_invoke {rcv : Operand} {name : String} {args : Array Operand} {ats : Array TypeId} {ca : Act} {W : World} {d : Option Tmp} {ty : TypeId} {ps : String} {af : Array Edge} {gu : Option (Nat × Bool)} {t : TypeId} {v : Value} {g : FuncId} {fn : Func} {c : Code}
    (hf : ca.eval rcv = .iface t v) (hm : aMethod P t name = .ok g) (h1 : P.funcs[g]? = some fn) (h2 : fn.body = some c) (h3 : (fn.name == "runtime.NumGoroutine") = false) :
    (execOp ca.eval ⟨d, .call ⟨.invoke rcv name, args, ats⟩, ty, ps, af, gu⟩).run P W = .ok (.enter g (v :: args.toList.map ca.eval).toArray) W := by
  have e : #[v] ++ (#[Value.iface t v] ++ args.map ca.eval).extract 1 (#[Value.iface t v] ++ args.map ca.eval).size = (v :: args.toList.map ca.eval).toArray := by
    apply Array.ext'
    simp
    exact List.take_of_length_le (by simp)
  have e0 : (#[Value.iface t v] ++ args.map ca.eval)[0]? = some (.iface t v) := by
    rw [Array.getElem?_append_left (by simp)]
    rfl
  obtain ⟨k, hk⟩ : ∃ k, P.types.size + Made.depth = k + 1 := by
    have h1 : 1 ≤ Made.depth := by decide
    exact ⟨P.types.size + (Made.depth - 1), by omega⟩
  simp only [execOp, resolve, hf, Sem.run_bind, Sem.run_pure, Result.andThen, invoke, e0, callMethod, run_program, hk, run_method' hm, callFunc, h1, h3, h2, Bool.false_eq_true, if_false, Option.isNone_some, e]

theorem exec_yield {cf : Operand} {args : Array Operand} {ats : Array TypeId} {ca : Act} {W : World} {d : Option Tmp} {ty : TypeId} {ps : String} {af : Array Edge} {gu : Option (Nat × Bool)} {b : Nat} {r : Loop}
    (hf : ca.eval cf = .func (.yield b) #[] #[]) (h1 : W.heap[b]? = some (.loop r)) (h2 : args.size = r.params.size) :
    (execOp ca.eval ⟨d, .call ⟨.value cf, args, ats⟩, ty, ps, af, gu⟩).run P W = .ok (.round b r.fn ((r.params.zip (args.map ca.eval)).foldl (fun tmps (p : Tmp × Value) => tmps.setIfInBounds p.1 p.2) r.tmps) r.assign r.body) W := by
  have e : (#[] : Array Value) ++ args.map ca.eval = args.map ca.eval := by simp
  simp only [execOp, resolve, hf, Deferred.ofValue, Sem.run_bind, Sem.run_pure, Result.andThen, invoke, e, Instr.yield, run_getLoop' h1, Array.size_map, h2, ne_eq, not_true_eq_false, if_false]

theorem params_fold {ρ : Ren} : ∀ (ps : List Tmp) (vs vs' : List Value) (b b' : AAct) (tmps : Array Value), (ps.zip vs).foldlM (fun (b : AAct) (p : Tmp × Value) => b.put (some p.1) p.2) b = (.ok b' : R AAct) → LR ρ vs vs' → TR ρ b.tm b.n tmps →
    TR ρ b'.tm b'.n ((ps.zip vs').foldl (fun tmps (p : Tmp × Value) => tmps.setIfInBounds p.1 p.2) tmps) ∧ b'.n = b.n ∧ b'.marks = b.marks
  | [], vs, vs', b, b', tmps, h, _, ht => by
    simp only [List.zip_nil_left, List.foldlM_nil] at h
    cases h
    exact ⟨by simpa using ht, rfl, rfl⟩
  | p :: ps, [], vs', b, b', tmps, h, hl, ht => by
    rw [hl.nil_inv]
    simp only [List.zip_nil_right, List.foldlM_nil] at h
    cases h
    exact ⟨by simpa using ht, rfl, rfl⟩
  | p :: ps, v :: vs, vs', b, b', tmps, h, hl, ht => by
    obtain ⟨v', m', rfl, hv, hm⟩ := hl.cons_inv
    simp only [List.zip_cons_cons, List.foldlM_cons] at h
    obtain ⟨b1, h1, h2⟩ := bok h
    obtain ⟨n1, n2⟩ := put_n h1
    have h1c := h1
    rw [AAct.put_eq] at h1
    simp only at h1
    split at h1
    · rename_i hd
      cases h1
      have ht1 : TR ρ (T.put AH.top b.tm p v) b.n (tmps.setIfInBounds p v') := ht.put hd.1 hd.2 hv
      obtain ⟨q1, q2, q3⟩ := params_fold ps vs m' _ b' _ h2 hm ht1
      exact ⟨by simpa using q1, q2, q3⟩
    · cases h1

theorem round_sim {rec : Rec} (hrec : RecOK P rec) {ρ : Ren} {H H1 H2 : AH} {W : World} (h : Rel ρ H W) {l : Nat} {r r1 r2 : ALoop} {pl : Pl} (hp : ρ l = some pl) {act act1 a2 : AAct} {x : AX} {tmps : Array Value}
    (har : AR ρ act { tmps := tmps, defers := [] }) (h4 : rec (.code (some l) r.assign act) H = .ok (.out .normal act1, H1)) (hlr1 : H1.get l = some (.loop r1)) (hs1 : r1.state = .ready)
    (h5 : rec (.code (some l) r.body act1) (H1.set l (.loop { r1 with state := .busy })) = .ok (.out x a2, H2)) (hlr2 : H2.get l = some (.loop r2)) (fn : FuncId) (rc : Option Nat) (n : Nat) {R : Ending → World → Prop}
    (hR : ∀ ρ' W', St ρ H W ρ' (H2.set l (.loop { r2 with state := if (jumpOf x).isNone then .ready else .done, pending := jumpOf x })) W' → R (.returned (.bool (jumpOf x).isNone)) W') :
    RoundIn (WF rc) n P pl.blk fn tmps r.assign r.body W R := by
  refine roundIn_of_wpIn (F := WF rc) trivial ?_
  refine wpIn_mono (hrec.code (some l) r.assign act H .normal act1 _ h4 ρ W _ (some pl.blk) n h har ⟨pl, hp, rfl⟩) (fun x' ca1 W1 hpost => ?_)
  obtain ⟨rfl, ρ1, st1, ar1⟩ := hpost
  have hp1 := st1.le _ _ hp
  obtain ⟨fn1, tmps1, pm1, u1, u2, u3⟩ := loop_at st1.rel hlr1 hp1
  have stb := St.setLoop (r' := { r1 with state := .busy }) st1.rel hlr1 hp1 (fn := fn1) (tmps := tmps1) (pm := pm1) u2 u3
  have hb : (Instr.beginRound pl.blk).run P W1 = .ok () { W1 with heap := W1.heap.setIfInBounds pl.blk (.loop { state := .busy, pending := r1.pending, fn := fn1, tmps := tmps1, params := r1.params.toArray, assign := r1.assign, body := r1.body, defers := pm1.blk }) } := by
    unfold Instr.beginRound
    simp only [Sem.run_bind, run_getLoop' u1, Result.andThen, run_setObj' u1 (by intro c t f e; cases e), hs1, Sem.run_pure]
  dsimp only at stb
  generalize ({ W1 with heap := W1.heap.setIfInBounds pl.blk (.loop { state := .busy, pending := r1.pending, fn := fn1, tmps := tmps1, params := r1.params.toArray, assign := r1.assign, body := r1.body, defers := pm1.blk }) } : World) = W1b at hb stb
  refine ⟨W1b, hb, ?_⟩
  have hbody := hrec.code (some l) r.body act1 _ x a2 H2 h5 ρ1 W1b ca1 (some pl.blk) n stb.rel ar1 ⟨pl, hp1, rfl⟩
  refine wpIn_mono hbody (fun x' ca2 W2 hpost => ?_)
  obtain ⟨rfl, ρ2, st2, ar2⟩ := hpost
  have hp2 := st2.le _ _ hp1
  obtain ⟨fn2, tmps2, pm2, q1, q2, q3⟩ := loop_at st2.rel hlr2 hp2
  have fin : ∃ v w', (Instr.endRound pl.blk (jumpOf x)).run P W2 = .ok v w' ∧ R (.returned v) w' := by
    have ste := St.setLoop (r' := { r2 with state := if (jumpOf x).isNone then .ready else .done, pending := jumpOf x }) st2.rel hlr2 hp2 (fn := fn2) (tmps := tmps2) (pm := pm2) q2 q3
    refine ⟨.bool (jumpOf x).isNone, _, ?_, hR ρ2 _ (((st1.trans stb).trans st2).trans ste)⟩
    unfold Instr.endRound
    simp only [Sem.run_bind, run_getLoop' q1, Result.andThen, run_setObj' q1 (by intro c t f e; cases e), Sem.run_pure]
  cases x with
  | normal => exact fin
  | ret => exact fin
  | exit id => exact fin
  | goto l => exact fin

theorem op_wp {a : AAct} {ca : Act} {ρ : Ren} {H H' : AH} {W : World} {v : Value} {rec : Rec} {o : Oper} (hrec : RecOK P rec) (h : Rel ρ H W) (hE : ∀ x ∈ o.op.operands, OpE a ca ρ x) (ho : aOp P rec a H o = .ok (v, H')) (rc : Option Nat) (n : Nat)
    {next : Act → World → Prop} {Q : Exit → Act → World → Prop} (hnext : ∀ ρ' W' v', St ρ H W ρ' H' W' → VR ρ' v v' → next (ca.put o.dst v') W') : o.wpIn (WF rc) n P ca W next Q := by
  refine ⟨about_any _ (fun f => trivial) o W ca.eval, ?_⟩
  have hnd : ∀ c, o.op ≠ .defer c := fun c e => by
    obtain ⟨d, op, ty, ps, af, gu⟩ := o
    simp only at e
    subst e
    simp [aOp] at ho
  rw [Oper.semAt_eq _ _ _ hnd]
  cases hcv : isCallV o.op with
  | false =>
    obtain ⟨ρ', W', v', hrun, hst, hvr⟩ := op_val h hE hcv ho
    rcases hrun with hrun | ⟨hrun, rfl⟩
    · rw [hrun]; exact hnext ρ' W' v' hst hvr
    · rw [hrun]; exact hnext ρ' W' _ hst hvr
  | true =>
    obtain ⟨d, op, ty, ps, af, gu⟩ := o
    cases op <;> simp only [isCallV] at hcv <;> first | (cases hcv; done) | skip
    rename_i c
    obtain ⟨cal, args, ats⟩ := c
    cases cal <;> simp only [isCallV] at hcv <;> first | (cases hcv; done) | skip
    case call.invoke rcv name =>
      simp only at hE hnext
      have hEf : OpE a ca ρ rcv := hE rcv (by simp [Op.operands, Call.operands])
      have hEa : ∀ y ∈ args.toList, OpE a ca ρ y := fun y hy => hE y (by simp [Op.operands, Call.operands]; exact .inr (by simpa using hy))
      simp only [aOp] at ho
      obtain ⟨vs, h1, ho1⟩ := bok ho
      clear ho
      obtain ⟨fv, h2, ho2⟩ := bok ho1
      clear ho1
      have hl := allR_eval h1 hEa
      have hfv := hEf _ h2
      obtain ⟨fv', hfe⟩ : ∃ fv', ca.eval rcv = fv' := ⟨_, rfl⟩
      rw [hfe] at hfv
      split at ho2
      · rename_i t u
        obtain ⟨g, h5, ho3⟩ := bok ho2
        clear ho2
        obtain ⟨⟨res, H1⟩, h3, ho4⟩ := bok ho3
        clear ho3
        cases res with
        | out x a' => exact absurd h3 (hrec.callVal _ _ _ _ _ _)
        | val w =>
          cases ho4
          obtain ⟨⟨fn, c, f1, f2, f3⟩, hcall⟩ := hrec.call _ _ _ _ _ h3
          cases hfv with
          | iface huv =>
            rename_i u'
            rw [exec_invoke hfe h5 f1 f2 f3, Oper.uponIn_enter]
            refine ⟨(fun hd => by cases hd), ?_⟩
            have := hcall ρ W _ (n - 1) h (hl.cons huv)
            refine CallsIn.mono (F := WF rc) this (fun e W' hp => ?_)
            obtain ⟨ρ', v', rfl, hst, hvr⟩ := hp
            exact hnext ρ' W' v' hst hvr
      · cases ho2
    rename_i cf
    simp only at hE hnext
    have hEf : OpE a ca ρ cf := hE cf (by simp [Op.operands, Call.operands])
    have hEa : ∀ y ∈ args.toList, OpE a ca ρ y := fun y hy => hE y (by simp [Op.operands, Call.operands]; exact .inr (by simpa using hy))
    simp only [aOp] at ho
    obtain ⟨vs, h1, ho1⟩ := bok ho
    clear ho
    obtain ⟨fv, h2, ho2⟩ := bok ho1
    clear ho1
    have hl := allR_eval h1 hEa
    have hfv := hEf _ h2
    obtain ⟨fv', hfe⟩ : ∃ fv', ca.eval cf = fv' := ⟨_, rfl⟩
    rw [hfe] at hfv
    split at ho2
    · rename_i g first cap
      obtain ⟨⟨res, H1⟩, h3, ho3⟩ := bok ho2
      clear ho2
      cases res with
      | out x a' => exact absurd h3 (hrec.callVal _ _ _ _ _ _)
      | val u =>
        cases ho3
        obtain ⟨⟨fn, c, f1, f2, f3⟩, hcall⟩ := hrec.call _ _ _ _ _ h3
        cases hfv with
        | func e1 e2 e3 e4 =>
          rename_i first' cap'
          rw [exec_value hfe f1 f2 f3, Oper.uponIn_enter]
          refine ⟨(fun hd => by cases hd), ?_⟩
          have hargs : LR ρ (first.toList ++ vs ++ cap.toList) (first'.toList ++ args.toList.map ca.eval ++ cap'.toList) := (LR.append (LR.append ⟨e1, e2⟩ hl) ⟨e3, e4⟩)
          have := hcall ρ W _ (n - 1) h hargs
          refine CallsIn.mono (F := WF rc) this (fun e W' hp => ?_)
          obtain ⟨ρ', v', rfl, hst, hvr⟩ := hp
          exact hnext ρ' W' v' hst hvr
    · rename_i l _ _
      split at ho2
      · rename_i r hlr
        split at ho2
        · cases ho2
        rename_i hlen
        split at ho2
        · rename_i hstate
          obtain ⟨act, h3, ho3⟩ := bok ho2
          clear ho2
          obtain ⟨⟨res, H1⟩, h4, ho4⟩ := bok ho3
          clear ho3
          split at ho4
          · rename_i act1 H1' hq1
            cases hq1
            split at ho4
            · rename_i r1 hlr1
              split at ho4
              · cases ho4
              rename_i hst1
              obtain ⟨⟨res2, H2⟩, h5, ho5⟩ := bok ho4
              clear ho4
              split at ho5
              · rename_i x a2 H2' hq2
                cases hq2
                split at ho5
                · rename_i r2 hlr2
                  cases ho5
                  cases hfv with
                  | yield hp =>
                    rename_i pl
                    obtain ⟨fn, tmps, pm, w1, w2, w3⟩ := loop_at h hlr hp
                    have hsz : args.size = r.params.toArray.size := by
                      have := hl.1
                      simp at this hlen ⊢
                      omega
                    rw [exec_yield hfe w1 hsz, Oper.uponIn_round]
                    refine ⟨(fun hd => by cases hd), ?_⟩
                    obtain ⟨t1, t2, t3⟩ := params_fold r.params vs (args.toList.map ca.eval) { tm := r.tm, n := r.n, marks := [] } act tmps h3 hl w2
                    have etm : (r.params.toArray.zip (args.map ca.eval)).foldl (fun tmps (p : Tmp × Value) => tmps.setIfInBounds p.1 p.2) tmps = (r.params.zip (args.toList.map ca.eval)).foldl (fun tmps (p : Tmp × Value) => tmps.setIfInBounds p.1 p.2) tmps := by
                      rw [← Array.foldl_toList, Array.toList_zip]
                      simp
                    simp only [etm]
                    have har : AR ρ act { tmps := (r.params.zip (args.toList.map ca.eval)).foldl (fun tmps (p : Tmp × Value) => tmps.setIfInBounds p.1 p.2) tmps, defers := [] } :=
                      ⟨t1, by rw [t3]; exact ⟨rfl, fun i m d hm => by simp at hm⟩⟩
                    have hs1 : r1.state = .ready := by simpa using hst1
                    exact round_sim hrec h hp har h4 hlr1 hs1 h5 hlr2 fn rc (n - 1) (fun ρ' W' st => hnext ρ' W' _ st (.bool _))
                · cases ho5
              · cases ho5
            · cases ho4
          · cases ho4
        · cases ho2
      · cases ho2
    · cases ho2

end
end Go.Eng
