/-
  A region whose order is open, in general: calls, appends, allocations that float.
-/
import Derived.Test.YtbcgpjfjfnnlcaaM15
set_option linter.unusedSimpArgs false
set_option linter.unusedVariables false
namespace Go.Eng
noncomputable section
variable {P : Program} {O : Orc}

theorem ins_congr {c g c' g' : Nat} : ∀ (ps : List Pend) (M : AH), (∀ p ∈ ps, (c.testBit p.op && !g.testBit p.op) = (c'.testBit p.op && !g'.testBit p.op)) → ins c g ps M = ins c' g' ps M
  | [], M, _ => rfl
  | p :: ps, M, h => by
    rw [ins, ins, h p (by simp)]
    exact ins_congr ps _ (fun q hq => h q (by simp [hq]))
theorem ins_none {c g : Nat} : ∀ (ps : List Pend) (M : AH), (∀ p ∈ ps, (c.testBit p.op && !g.testBit p.op) = false) → ins c g ps M = M
  | [], M, _ => rfl
  | p :: ps, M, h => by
    rw [ins, h p (by simp)]
    exact ins_none ps M (fun q hq => h q (by simp [hq]))

/-- a literal's list -/
def litAt (os : List Oper) (i : Nat) : Bool := match os[i]? with
  | some o => (match o.op with
    | .buildSlice _ _ _ => true
    | _ => false)
  | none => false
def noLit (os : List Oper) (done : Nat) : Bool := (List.range os.length).all fun i => !(litAt os i && done.testBit i)
theorem noLit_at {os : List Oper} {done i : Nat} (h : noLit os done = true) (hl : litAt os i = true) : done.testBit i = false := by
  have hi : i < os.length := by
    unfold litAt at hl
    cases ho : os[i]? with
    | none => rw [ho] at hl; cases hl
    | some o => exact lt_of_get ho
  have := List.all_eq_true.1 h i (List.mem_range.2 hi)
  rw [hl] at this
  simpa using this

/-- a region's way so far -/
structure DC where
  done : Nat
  last : Nat
  got : Nat
  chs : List (Nat × List Nat × Bool)

structure RelD (P : Program) (os : List Oper) (base lo n : Nat) (ps : List Pend) (C : Ctx) (e : Env) (s : PS) (a : AAct) (m : PM) (σ : DC) (chE : List (Nat × PM)) : Prop where
  rel : RelA C e s a (m.ins σ.done ps)
  got : m.got = σ.got
  pd : Pends P os lo n ps
  all : ∀ (j : Nat) (o : Oper), os[j]? = some o → floatOp o = true → ∃ p ∈ ps, p.op = j
  lo : C.H0.next ≤ lo
  hi : n ≤ m.H.next
  gone : ∀ p ∈ ps, σ.done.testBit p.op = false → (m.ins σ.done ps).get p.id = none
  famx : ∀ p ∈ ps, σ.done.testBit p.op = false → ∀ (j : Nat) (r : Row), (m.ins σ.done ps).get j = some (.row r) → r.fam ≠ p.id
  tok : ∀ p ∈ ps, σ.done.testBit p.op = false → ∀ (t : Nat) (τ : Tk), e.toks[t]? = some (some τ) → τ.fam ≠ p.id
  sub : ∀ p ∈ ps, σ.got.testBit p.op = true → σ.done.testBit p.op = true
  bs : base ≤ e.rows.length ∧ ∀ (k id : Nat), k < base → e.rows[k]? = some id → ∀ p ∈ ps, p.id ≠ id
  exec : ∀ p ∈ ps, σ.done.testBit p.op = true → p.id ∈ e.rows ∨ litAt os p.op = true
  len : σ.chs.length = chE.length
  back : ∀ (i : Nat) (x : Nat × List Nat × Bool) (y : Nat × PM), σ.chs[i]? = some x → chE[i]? = some y → x.1 = y.1 ∧
    (∀ (k id : Nat), k < base → k ∉ x.2.1 → e.rows[k]? = some id → y.2.H.get id = (m.ins σ.done ps).get id) ∧
    (x.2.2 = false → ∀ id, (∀ p ∈ ps, p.id ≠ id) → (∀ k, k ∈ x.2.1 → e.rows[k]? ≠ some id) → y.2.H.get id = (m.ins σ.done ps).get id)

def PD (P : Program) (O : Orc) (os : List Oper) (cl : List Nat) (base : Nat) (js : List Nat) (σ : DC) (s : PS) (Q : PS → Prop) : Prop :=
  ∀ lo n ps C e a m chE, RelD P os base lo n ps C e s a m σ chE → ∃ N, ∀ k, N ≤ k → ∃ D, js.foldlM (dStep P (oRun P O k) os cl) ⟨σ.done, σ.last, chE, a, m, ps⟩ = .ok D ∧ D.done = 2 ^ os.length - 1 ∧ UpO C Q D.a (D.m.ins D.done D.ps)

section rules
variable {os : List Oper} {cl : List Nat} {base j : Nat} {js : List Nat} {σ : DC} {s : PS} {Q : PS → Prop} {o : Oper}

theorem PD.nil (hd : σ.done = 2 ^ os.length - 1) (h : Q s) : PD P O os cl base [] σ s Q := fun lo n ps C e a m chE hR =>
  ⟨0, fun k _ => ⟨⟨σ.done, σ.last, chE, a, m, ps⟩, rfl, hd, e, s, hR.rel, h⟩⟩

/-- is each allocation that was carried out among those that are waited for? -/
def floatsAt (os : List Oper) : List Nat := (List.range os.length).filter fun i => match os[i]? with
  | some o => floatOp o
  | none => false
def fOK (os : List Oper) (c got done : Nat) : Bool := (floatsAt os).all fun i => !done.testBit i || (got.testBit i || c.testBit i)

theorem floats_mem {lo n : Nat} {ps : List Pend} (pd : Pends P os lo n ps) {p : Pend} (hp : p ∈ ps) : p.op ∈ floatsAt os := by
  obtain ⟨o, h1, h2⟩ := pd.float hp
  unfold floatsAt
  rw [List.mem_filter]
  refine ⟨List.mem_range.2 (lt_of_get h1), ?_⟩
  rw [h1]; exact h2

theorem bits_sub {a b : Nat} (h : bitsIn a b = true) {i : Nat} (hi : a.testBit i = true) : b.testBit i = true := by
  unfold bitsIn at h
  have e : a &&& b = a := by simpa using h
  have : (a &&& b).testBit i = true := by rw [e]; exact hi
  rw [Nat.testBit_and] at this
  simp only [Bool.and_eq_true] at this
  exact this.2

theorem ins_cl {lo n : Nat} {ps : List Pend} {m : PM} (pd : Pends P os lo n ps) {c done : Nat} (hc : bitsIn c done = true) (hf : fOK os c m.got done = true) : m.ins c ps = m.ins done ps := by
  unfold PM.ins
  refine ins_congr ps m.H fun p hp => ?_
  have h1 := List.all_eq_true.1 hf p.op (floats_mem pd hp)
  cases hg : m.got.testBit p.op with
  | true => simp
  | false =>
    rw [hg] at h1
    simp only [Bool.not_false, Bool.and_true]
    cases hd : done.testBit p.op with
    | true => rw [hd] at h1; simpa using h1
    | false =>
      cases hcb : c.testBit p.op with
      | false => rfl
      | true => rw [bits_sub hc hcb] at hd; cases hd

theorem not_float {lo n : Nat} {ps : List Pend} (pd : Pends P os lo n ps) (ho : os[j]? = some o) (hf : floatOp o = false) {p : Pend} (hp : p ∈ ps) : p.op ≠ j := fun e => by
  obtain ⟨o', h1, h2⟩ := pd.float hp
  rw [e, ho] at h1; cases h1
  rw [hf] at h2; cases h2

theorem bit_or {d j i : Nat} (h : i ≠ j) : (d ||| 2 ^ j).testBit i = d.testBit i := by
  rw [Nat.testBit_or, Nat.testBit_two_pow]
  simp [Ne.symm h]

theorem ins_done {lo n : Nat} {ps : List Pend} {m : PM} (pd : Pends P os lo n ps) (ho : os[j]? = some o) (hf : floatOp o = false) (done : Nat) : m.ins (done ||| 2 ^ j) ps = m.ins done ps := by
  unfold PM.ins
  exact ins_congr ps m.H fun p hp => by rw [bit_or (not_float pd ho hf hp)]

/-- an operation that leaves the memory as it is: the relation goes over -/
theorem RelD.quiet {lo n : Nat} {ps : List Pend} {C : Ctx} {e : Env} {a : AAct} {m : PM} {chE : List (Nat × PM)} (hR : RelD P os base lo n ps C e s a m σ chE) (ho : os[j]? = some o) (hf : floatOp o = false) {s' : PS} {a' : AAct} (h : RelA C e s' a' (m.ins σ.done ps)) : RelD P os base lo n ps C e s' a' m { σ with done := σ.done ||| 2 ^ j } chE := by
  have e1 := ins_done (m := m) hR.pd ho hf σ.done
  refine ⟨by rw [e1]; exact h, hR.got, hR.pd, hR.all, hR.lo, hR.hi, fun p hp hd => ?_, fun p hp hd => ?_, fun p hp hd => ?_, fun p hp hg => ?_, hR.bs, fun p hp hd => ?_, hR.len, ?_⟩
  · rw [e1]; exact hR.gone p hp (by rw [← bit_or (d := σ.done) (not_float hR.pd ho hf hp)]; exact hd)
  · rw [e1]; exact hR.famx p hp (by rw [← bit_or (d := σ.done) (not_float hR.pd ho hf hp)]; exact hd)
  · exact hR.tok p hp (by rw [← bit_or (d := σ.done) (not_float hR.pd ho hf hp)]; exact hd)
  · show (σ.done ||| 2 ^ j).testBit p.op = true
    rw [bit_or (not_float hR.pd ho hf hp)]; exact hR.sub p hp hg
  · exact hR.exec p hp (by rw [← bit_or (d := σ.done) (not_float hR.pd ho hf hp)]; exact hd)
  · show ∀ (i : Nat) (x : Nat × List Nat × Bool) (y : Nat × PM), _
    rw [show ({ σ with done := σ.done ||| 2 ^ j } : DC).done = σ.done ||| 2 ^ j from rfl, e1]
    exact hR.back

theorem do_want {rec : Rec} {a : AAct} {H : AH} {C : Ctx} {e : Env} (hR : RelA C e s a H) (hw : pWanted os s o = some true) (M : AH) : aDo P rec os a M o = aOp P rec a M o := by
  unfold aDo
  rw [hR.wanted hw]
  rfl

theorem PD.pure {p : PV} (ho : os[j]? = some o) (hf : floatOp o = false) (hd : σ.done.testBit j = false) (hc : bitsIn (cl.getD j 0) σ.done = true) (hpu : pureOp P o.op = true) (hw : pWanted os s o = some true) (hp : pPure P s o.op = some p) (hcan : s.can o.dst = true)
    (h : PD P O os cl base js { σ with done := σ.done ||| 2 ^ j } (s.upd o.dst p) Q) : PD P O os cl base (j :: js) σ s Q := fun lo n ps C e a m chE hR => by
  obtain ⟨_, hcore⟩ := pPure_core (O := O) hp
  obtain ⟨v, k1, k2⟩ := hcore C e a _ hR.rel
  obtain ⟨N, hN⟩ := h lo n ps C e (a.upd o.dst v) m chE (hR.quiet ho hf (hR.rel.upd hcan hR.rel.refl k2))
  refine ⟨N, fun k hk => ?_⟩
  obtain ⟨D, d1, d2⟩ := hN k hk
  refine ⟨D, ?_, d2⟩
  rw [List.foldlM_cons]
  have hdo : aDo P (oRun P O k) os a (m.ins (cl.getD j 0) ps) o = .ok (v, m.ins (cl.getD j 0) ps) := by
    have h1 : aDo P (oRun P O k) os a (m.ins σ.done ps) o = .ok (v, m.ins σ.done ps) := by rw [do_want hR.rel hw]; exact aOp_mono (oRun_le (Nat.zero_le k)) k1
    exact (aDo_pure hpu h1).2 _
  have : dStep P (oRun P O k) os cl ⟨σ.done, σ.last, chE, a, m, ps⟩ j = .ok ⟨σ.done ||| 2 ^ j, σ.last, chE, a.upd o.dst v, m, ps⟩ := by
    unfold dStep
    simp only [ho, hd, hc, hf, Bool.false_eq_true, if_false, Bool.not_true, hdo]
    simp only [bind, Except.bind, hR.rel.put hcan, hpu, if_true]
  rw [this]
  exact d1

/-- may a read of this value be had also ahead of those chief operations? -/
def rdOK (base c : Nat) (q : PV) (chs : List (Nat × List Nat × Bool)) (nl : Bool := true) : Bool := chs.all fun x => c.testBit x.1 || (match q with
  | .ptr k _ => Nat.ble (k + 1) base && !x.2.1.contains k
  | .eptr _ _ => !x.2.2 && nl
  | _ => false)

theorem sameBack_of2 {rec : Rec} {a : AAct} {v : Value} {c : Nat} {ps : List Pend} : ∀ (chs : List (Nat × PM)), (∀ x ∈ chs, c.testBit x.1 = true ∨ ∃ u M, aDo P rec os a (x.2.ins c ps) o = .ok (u, M) ∧ veq 3 v u = true) → sameBack P rec os ps a o v c chs = true
  | [], _ => rfl
  | (j, m) :: l, h => by
    simp only [sameBack]
    split
    · rfl
    · rename_i hc
      rcases h (j, m) (by simp) with h1 | ⟨u, M, h1, h2⟩
      · exact absurd h1 hc
      · rw [h1]
        simp only [h2, Bool.true_and]
        exact sameBack_of2 l (fun x hx => h x (by simp [hx]))

theorem PD.load {t : TypeId} {x : Operand} {q p : PV} (ho : os[j]? = some o) (hop : o.op = .load t x) (hd : σ.done.testBit j = false) (hc : bitsIn (cl.getD j 0) σ.done = true) (hfo : fOK os (cl.getD j 0) σ.got σ.done = true) (hw : pWanted os s o = some true) (hx : s.ev x = some q) (hl : pLoad P s.fr t q = some p)
    (hr : rdOK base (cl.getD j 0) q σ.chs (noLit os σ.done) = true) (hok : p.okd2 = true) (hcan : s.can o.dst = true) (h : PD P O os cl base js { σ with done := σ.done ||| 2 ^ j } (s.upd o.dst p) Q) : PD P O os cl base (j :: js) σ s Q := fun lo n ps C e a m chE hR => by
  have hf : floatOp o = false := by unfold floatOp; rw [hop]
  obtain ⟨u, k1, k2⟩ := hR.rel.ev hx
  obtain ⟨id, off, v, k3, k4, k5⟩ := hR.rel.load k2 hl
  have hins := ins_cl (m := m) hR.pd hc (by rw [hR.got]; exact hfo)
  obtain ⟨N, hN⟩ := h lo n ps C e (a.upd o.dst v) m chE (hR.quiet ho hf (hR.rel.upd hcan hR.rel.refl k5))
  refine ⟨N, fun k hk => ?_⟩
  obtain ⟨D, d1, d2⟩ := hN k hk
  refine ⟨D, ?_, d2⟩
  rw [List.foldlM_cons]
  have hopM : ∀ M : AH, aDo P (oRun P O k) os a M o = (aLoad P M t id off >>= fun v => .ok (v, M)) := fun M => by
    rw [do_want hR.rel hw]
    obtain ⟨dd, op, ty, pst, af, gu⟩ := o
    simp only at hop
    subst hop
    simp only [aOp, AAct.ev_eval k1, bind, Except.bind, k3]
  have hdo : aDo P (oRun P O k) os a (m.ins (cl.getD j 0) ps) o = .ok (v, m.ins (cl.getD j 0) ps) := by rw [hopM, hins, k4] <;> rfl
  have hpu : pureOp P o.op = false := by rw [hop]; rfl
  have hre : readOp o.op = true := by rw [hop]; rfl
  have hsb : sameBack P (oRun P O k) os ps a o v (cl.getD j 0) chE = true := by
    refine sameBack_of2 _ fun y hy => ?_
    obtain ⟨i, hi, rfl⟩ := List.mem_iff_getElem.1 hy
    obtain ⟨x0, hx0⟩ := get_of_lt (l := σ.chs) (i := i) (by rw [hR.len]; exact hi)
    obtain ⟨e1, e2, e3⟩ := hR.back i x0 _ hx0 (List.getElem?_eq_getElem hi)
    have hr0 := List.all_eq_true.1 hr x0 (List.mem_of_getElem? hx0)
    rw [Bool.or_eq_true] at hr0
    rcases hr0 with h1 | h1
    · left; rw [← e1]; exact h1
    · right
      have hsame : (chE[i].2.ins (cl.getD j 0) ps).get id = (m.ins σ.done ps).get id := by
        have free : (∀ p ∈ ps, p.id ≠ id) → (chE[i].2.ins (cl.getD j 0) ps).get id = chE[i].2.H.get id := fun hfree => ins_not ps _ (fun _ _ => Nat.le_refl _) (fun p hp _ _ => hfree p hp)
        cases q with
        | ptr kq oq =>
          cases k2 with
          | @ptr _ _ idq hkq =>
            simp only [addrOf, Except.ok.injEq, Prod.mk.injEq] at k3
            obtain ⟨rfl, _⟩ := k3
            simp only [Bool.and_eq_true, Bool.not_eq_true', Nat.ble_eq] at h1
            have hb := hR.bs.2 kq idq h1.1 hkq
            rw [free hb]
            exact e2 kq idq h1.1 (fun hm => by have := h1.2; rw [List.contains_iff_mem.2 hm] at this; cases this) hkq
        | eptr c o2 =>
          cases k2 with
          | @eptr _ _ _ idr b0 n0 r w hr' hm hs hv hh =>
            simp only [addrOf, Except.ok.injEq, Prod.mk.injEq] at k3
            obtain ⟨rfl, _⟩ := k3
            have hb : ∀ p ∈ ps, p.id ≠ idr := fun p hp e4 => by
              cases hdn : σ.done.testBit p.op with
              | false => have := hR.gone p hp hdn; rw [e4, hr'] at this; cases this
              | true =>
                rcases hR.exec p hp hdn with h9 | h9
                · exact hs.row (by rw [← e4]; exact h9)
                · have h8 : (!x0.2.2 && noLit os σ.done) = true := h1
                  rw [Bool.and_eq_true] at h8
                  rw [noLit_at h8.2 h9] at hdn; cases hdn
            rw [free hb]
            have h8 : (!x0.2.2 && noLit os σ.done) = true := h1
            rw [Bool.and_eq_true, Bool.not_eq_true'] at h8
            exact e3 h8.1 idr hb (fun k _ hk => hs.row (List.mem_of_getElem? hk))
        | _ => cases hl
      exact ⟨v, _, by rw [hopM, aLoad_same hsame, k4] <;> rfl, okd2_veq k5 hok⟩
  have : dStep P (oRun P O k) os cl ⟨σ.done, σ.last, chE, a, m, ps⟩ j = .ok ⟨σ.done ||| 2 ^ j, σ.last, chE, a.upd o.dst v, m, ps⟩ := by
    unfold dStep
    simp only [ho, hd, hc, hf, Bool.false_eq_true, if_false, Bool.not_true, hdo]
    simp only [bind, Except.bind, hR.rel.put hcan, hpu, hre, hsb, if_true, Bool.false_eq_true, if_false]
  rw [this]
  exact d1

/-- what an operation does, and what it leaves as it is -/
def Effect (P : Program) (O : Orc) (s : PS) (o : Oper) (p : PV) (fr' : List PRow) (tk' : List Nat) (T : List Nat) (loud : Bool) : Prop :=
  deferOf o.op = none ∧ ∀ C e a H, RelA C e s a H → ∃ n v H' e', aOp P (oRun P O n) a H o = .ok (v, H') ∧ Step e s.tk H e' fr' tk' H' ∧ RV e' tk' H' true p v ∧
    (∀ (k id : Nat), e.rows[k]? = some id → k ∉ T → H'.get id = H.get id) ∧ (loud = false → ∀ id, (∀ k, k ∈ T → e.rows[k]? ≠ some id) → H'.get id = H.get id)

def newest (c : Nat) : List (Nat × List Nat × Bool) → Bool
  | [] => true
  | x :: _ => c.testBit x.1

def chsAfter (j : Nat) (T : List Nat) (loud : Bool) (chs : List (Nat × List Nat × Bool)) : List (Nat × List Nat × Bool) := (j, T, loud) :: chs.map fun x => (x.1, T ++ x.2.1, x.2.2 || loud)

theorem PD.chief_core {p : PV} {fr' : List PRow} {tk' : List Nat} {T : List Nat} {loud : Bool} (ho : os[j]? = some o) (hf : floatOp o = false) (hd : σ.done.testBit j = false) (hc : bitsIn (cl.getD j 0) σ.done = true) (hpu : pureOp P o.op = false) (hre : readOp o.op = false) (hl : bitsIn (σ.done ^^^ σ.last) (cl.getD j 0) = true)
    (hch : newest (cl.getD j 0) σ.chs = true) (hfo : fOK os (cl.getD j 0) σ.got σ.done = true) {lo n : Nat} {ps : List Pend} {C : Ctx} {e : Env} {a : AAct} {m : PM} {chE : List (Nat × PM)} (hR : RelD P os base lo n ps C e s a m σ chE)
    (hE : ∃ n v H' e', (∀ k, n ≤ k → aDo P (oRun P O k) os a (m.ins σ.done ps) o = .ok (v, H')) ∧ Step e s.tk (m.ins σ.done ps) e' fr' tk' H' ∧ RV e' tk' H' true p v ∧ (∀ (k id : Nat), e.rows[k]? = some id → k ∉ T → H'.get id = (m.ins σ.done ps).get id) ∧ (loud = false → ∀ id, (∀ k, k ∈ T → e.rows[k]? ≠ some id) → H'.get id = (m.ins σ.done ps).get id)) (hcan : s.can o.dst = true)
    (h : PD P O os cl base js ⟨σ.done ||| 2 ^ j, σ.done ||| 2 ^ j, σ.got ||| cl.getD j 0, chsAfter j T loud σ.chs⟩ ((s.mem fr' tk').upd o.dst p) Q) : ∃ N, ∀ k, N ≤ k → ∃ D, (j :: js).foldlM (dStep P (oRun P O k) os cl) ⟨σ.done, σ.last, chE, a, m, ps⟩ = .ok D ∧ D.done = 2 ^ os.length - 1 ∧ UpO C Q D.a (D.m.ins D.done D.ps) := by
  obtain ⟨n0, v, H1, e', k1, st, k3, k4, k5⟩ := hE
  have hins := ins_cl (m := m) hR.pd hc (by rw [hR.got]; exact hfo)
  have hnext : (m.ins σ.done ps).next = m.H.next := ins_next _ _ _ _
  have hpid : ∀ p ∈ ps, p.id < m.H.next := fun p hp => Nat.lt_of_lt_of_le (hR.pd.mem p hp).2.1 hR.hi
  -- nothing of the allocations is left out
  have hno : ∀ p ∈ ps, ((σ.done ||| 2 ^ j).testBit p.op && !(m.got ||| cl.getD j 0).testBit p.op) = false := fun p hp => by
    rw [bit_or (not_float hR.pd ho hf hp), Nat.testBit_or, hR.got]
    have h1 := List.all_eq_true.1 hfo p.op (floats_mem hR.pd hp)
    cases hdn : σ.done.testBit p.op with
    | false => simp
    | true => rw [hdn] at h1; simp only [Bool.not_true, Bool.false_or] at h1; simp only [Bool.true_and, h1, Bool.not_true]
  have hF' : (PM.mk H1 (m.got ||| cl.getD j 0)).ins (σ.done ||| 2 ^ j) ps = H1 := ins_none ps H1 hno
  obtain ⟨new, hn1, hn2⟩ := st.ext.rows
  have hrows : e'.rows = e.rows ++ new := hn1
  have hup := hR.rel.upd hcan st k3
  have hk : ∀ (k id : Nat), k < base → (e'.rows[k]? = some id ↔ e.rows[k]? = some id) := fun k id hk => by
    rw [hrows, List.getElem?_append_left (Nat.lt_of_lt_of_le hk hR.bs.1)]
  have hnew : RelD P os base lo n ps C e' ((s.mem fr' tk').upd o.dst p) (a.upd o.dst v) ⟨H1, m.got ||| cl.getD j 0⟩ ⟨σ.done ||| 2 ^ j, σ.done ||| 2 ^ j, σ.got ||| cl.getD j 0, chsAfter j T loud σ.chs⟩ ((j, m) :: chE) := by
    refine ⟨by rw [show (DC.mk (σ.done ||| 2 ^ j) (σ.done ||| 2 ^ j) (σ.got ||| cl.getD j 0) (chsAfter j T loud σ.chs)).done = σ.done ||| 2 ^ j from rfl, hF']; exact hup, by show m.got ||| _ = σ.got ||| _; rw [hR.got], hR.pd, hR.all, hR.lo, ?_, fun p hp hdn => ?_, fun p hp hdn i r hr => ?_, fun p hp hdn t τ ht => ?_, fun p hp hg => ?_, ⟨?_, fun k id hkb hid p hp => ?_⟩, fun p hp hdn => ?_, by simp [chsAfter, hR.len], fun i x y hx hy => ?_⟩
    · have h1 : (m.ins σ.done ps).next ≤ H1.next := st.frame.next
      rw [hnext] at h1
      exact Nat.le_trans hR.hi h1
    · have hdn' : σ.done.testBit p.op = false := by rw [← bit_or (d := σ.done) (not_float hR.pd ho hf hp)]; exact hdn
      rw [show (DC.mk (σ.done ||| 2 ^ j) (σ.done ||| 2 ^ j) (σ.got ||| cl.getD j 0) (chsAfter j T loud σ.chs)).done = σ.done ||| 2 ^ j from rfl, hF']
      exact st.frame.gone p.id (by show p.id < (m.ins σ.done ps).next; rw [hnext]; exact hpid p hp) (hR.gone p hp hdn')
    · have hdn' : σ.done.testBit p.op = false := by rw [← bit_or (d := σ.done) (not_float hR.pd ho hf hp)]; exact hdn
      rw [show (DC.mk (σ.done ||| 2 ^ j) (σ.done ||| 2 ^ j) (σ.got ||| cl.getD j 0) (chsAfter j T loud σ.chs)).done = σ.done ||| 2 ^ j from rfl, hF'] at hr
      rcases st.frame.fam i r hr with ⟨i0, r0, q1, q2⟩ | q1
      · rw [← q2]; exact hR.famx p hp hdn' i0 r0 q1
      · have q1' : (m.ins σ.done ps).next ≤ r.fam := q1
        rw [hnext] at q1'
        have := hpid p hp
        omega
    · have hdn' : σ.done.testBit p.op = false := by rw [← bit_or (d := σ.done) (not_float hR.pd ho hf hp)]; exact hdn
      rcases st.ext.tok t τ ht with h1 | h1
      · exact hR.tok p hp hdn' t τ h1
      · have h2 : (m.ins σ.done ps).next ≤ τ.fam := h1
        rw [hnext] at h2
        have := hpid p hp; omega
    · show (σ.done ||| 2 ^ j).testBit p.op = true
      have hg' : (σ.got ||| cl.getD j 0).testBit p.op = true := hg
      rw [bit_or (not_float hR.pd ho hf hp)]
      rw [Nat.testBit_or, Bool.or_eq_true] at hg'
      rcases hg' with h1 | h1
      · exact hR.sub p hp h1
      · exact bits_sub hc h1
    · rw [hrows, List.length_append]; have := hR.bs.1; omega
    · exact hR.bs.2 k id hkb ((hk k id hkb).1 hid) p hp
    · have hdn' : σ.done.testBit p.op = true := by rw [← bit_or (d := σ.done) (not_float hR.pd ho hf hp)]; exact hdn
      rw [hrows]
      exact (hR.exec p hp hdn').imp (List.mem_append_left _) id
    · rw [show (DC.mk (σ.done ||| 2 ^ j) (σ.done ||| 2 ^ j) (σ.got ||| cl.getD j 0) (chsAfter j T loud σ.chs)).done = σ.done ||| 2 ^ j from rfl, hF']
      have free : ∀ id, (∀ p ∈ ps, p.id ≠ id) → m.H.get id = (m.ins σ.done ps).get id := fun id hfree => (ins_not ps _ (fun _ _ => Nat.le_refl _) (fun p hp _ _ => hfree p hp)).symm
      cases i with
      | zero =>
        simp [chsAfter] at hx hy
        subst hx; subst hy
        refine ⟨rfl, fun k id hkb hkT hid => ?_, fun hlo id hfree hT => ?_⟩
        · have hid' := (hk k id hkb).1 hid
          rw [k4 k id hid' hkT]
          exact free id (hR.bs.2 k id hkb hid')
        · rw [k5 hlo id (fun k hkT hid => hT k hkT (by rw [hrows]; exact get_app_old hid))]
          exact free id hfree
      | succ i =>
        simp only [chsAfter, List.getElem?_cons_succ, List.getElem?_map] at hx hy
        cases hx0 : σ.chs[i]? with
        | none => rw [hx0] at hx; cases hx
        | some x0 =>
          rw [hx0] at hx
          simp only [Option.map_some, Option.some.injEq] at hx
          subst hx
          obtain ⟨e1, e2, e3⟩ := hR.back i x0 y hx0 hy
          refine ⟨e1, fun k id hkb hkT hid => ?_, fun hlo id hfree hT => ?_⟩
          · have hid' := (hk k id hkb).1 hid
            simp only [List.mem_append, not_or] at hkT
            rw [k4 k id hid' hkT.1]
            exact e2 k id hkb hkT.2 hid'
          · simp only [Bool.or_eq_false_iff] at hlo
            rw [k5 hlo.2 id (fun k hkT hid => hT k (List.mem_append_left _ hkT) (by rw [hrows]; exact get_app_old hid))]
            exact e3 hlo.1 id hfree (fun k hkT hid => hT k (List.mem_append_right _ hkT) (by rw [hrows]; exact get_app_old hid))
  obtain ⟨N, hN⟩ := h lo n ps C e' (a.upd o.dst v) _ _ hnew
  refine ⟨max N n0, fun k hk => ?_⟩
  obtain ⟨D, d1, d2⟩ := hN k (Nat.le_trans (Nat.le_max_left _ _) hk)
  refine ⟨D, ?_, d2⟩
  rw [List.foldlM_cons]
  have hdo : aDo P (oRun P O k) os a (m.ins (cl.getD j 0) ps) o = .ok (v, H1) := by
    rw [hins]; exact k1 k (Nat.le_trans (Nat.le_max_right _ _) hk)
  have hlb : bitsIn (σ.done ^^^ σ.last) (cl.getD j 0 ||| floatsOf ps) = true := by
    unfold bitsIn at hl ⊢
    have e : (σ.done ^^^ σ.last) &&& cl.getD j 0 = (σ.done ^^^ σ.last) := by simpa using hl
    have : (σ.done ^^^ σ.last) &&& (cl.getD j 0 ||| floatsOf ps) = (σ.done ^^^ σ.last) := by
      apply Nat.eq_of_testBit_eq
      intro i
      have h1 : ((σ.done ^^^ σ.last) &&& cl.getD j 0).testBit i = (σ.done ^^^ σ.last).testBit i := by rw [e]
      rw [Nat.testBit_and] at h1
      rw [Nat.testBit_and, Nat.testBit_or]
      cases hb : (σ.done ^^^ σ.last).testBit i with
      | false => rfl
      | true => rw [hb] at h1; simp only [Bool.true_and] at h1; rw [h1]; rfl
    rw [this]; simp
  have hcc : (match (generalizing := false) chE with | [] => true | (c0, _) :: _ => (cl.getD j 0).testBit c0) = true := by
    cases hchE : chE with
    | nil => rfl
    | cons y l =>
      obtain ⟨x0, hx0⟩ := get_of_lt (l := σ.chs) (i := 0) (by rw [hR.len, hchE]; simp)
      obtain ⟨e1, _⟩ := hR.back 0 x0 y hx0 (by rw [hchE]; rfl)
      cases hs : σ.chs with
      | nil => rw [hs] at hx0; cases hx0
      | cons x1 l1 =>
        rw [hs] at hx0 hch
        cases hx0
        show (cl.getD j 0).testBit y.1 = true
        rw [← e1]; exact hch
  have : dStep P (oRun P O k) os cl ⟨σ.done, σ.last, chE, a, m, ps⟩ j = .ok ⟨σ.done ||| 2 ^ j, σ.done ||| 2 ^ j, (j, m) :: chE, a.upd o.dst v, ⟨H1, m.got ||| cl.getD j 0⟩, ps⟩ := by
    unfold dStep
    simp only [ho, hd, hc, hf, Bool.false_eq_true, if_false, Bool.not_true, hdo]
    simp only [bind, Except.bind, hR.rel.put hcan, hpu, hre, hlb, if_false, Bool.not_true, Bool.false_eq_true]
    refine if_neg (fun hx => ?_)
    rw [Bool.not_eq_true'] at hx
    exact Bool.noConfusion (hcc.symm.trans hx)
  rw [this]
  exact d1

theorem PD.chief_one {p : PV} {fr' : List PRow} {tk' : List Nat} {T : List Nat} {loud : Bool} (ho : os[j]? = some o) (hf : floatOp o = false) (hd : σ.done.testBit j = false) (hc : bitsIn (cl.getD j 0) σ.done = true) (hpu : pureOp P o.op = false) (hre : readOp o.op = false) (hl : bitsIn (σ.done ^^^ σ.last) (cl.getD j 0) = true)
    (hch : newest (cl.getD j 0) σ.chs = true) (hfo : fOK os (cl.getD j 0) σ.got σ.done = true) (hw : pWanted os s o = some true) (hdf : deferOf o.op = none) {lo n : Nat} {ps : List Pend} {C : Ctx} {e : Env} {a : AAct} {m : PM} {chE : List (Nat × PM)} (hR : RelD P os base lo n ps C e s a m σ chE)
    (hE : ∃ n v H' e', aOp P (oRun P O n) a (m.ins σ.done ps) o = .ok (v, H') ∧ Step e s.tk (m.ins σ.done ps) e' fr' tk' H' ∧ RV e' tk' H' true p v ∧ (∀ (k id : Nat), e.rows[k]? = some id → k ∉ T → H'.get id = (m.ins σ.done ps).get id) ∧ (loud = false → ∀ id, (∀ k, k ∈ T → e.rows[k]? ≠ some id) → H'.get id = (m.ins σ.done ps).get id)) (hcan : s.can o.dst = true)
    (h : PD P O os cl base js ⟨σ.done ||| 2 ^ j, σ.done ||| 2 ^ j, σ.got ||| cl.getD j 0, chsAfter j T loud σ.chs⟩ ((s.mem fr' tk').upd o.dst p) Q) : ∃ N, ∀ k, N ≤ k → ∃ D, (j :: js).foldlM (dStep P (oRun P O k) os cl) ⟨σ.done, σ.last, chE, a, m, ps⟩ = .ok D ∧ D.done = 2 ^ os.length - 1 ∧ UpO C Q D.a (D.m.ins D.done D.ps) := by
  obtain ⟨n0, v, H1, e', k1, st, k3, k4, k5⟩ := hE
  exact PD.chief_core ho hf hd hc hpu hre hl hch hfo hR ⟨n0, v, H1, e', fun k hk => by rw [do_want hR.rel hw]; exact aOp_mono (oRun_le hk) k1, st, k3, k4, k5⟩ hcan h

theorem do_not {rec : Rec} {a : AAct} {H : AH} {C : Ctx} {e : Env} (hR : RelA C e s a H) (hw : pWanted os s o = some false) (M : AH) : aDo P rec os a M o = .ok (undef, M) := by
  unfold aDo
  rw [hR.wanted hw]
  rfl
/-- one that is not wanted: a chief operation otherwise -/
theorem PD.skipC (ho : os[j]? = some o) (hf : floatOp o = false) (hd : σ.done.testBit j = false) (hc : bitsIn (cl.getD j 0) σ.done = true) (hpu : pureOp P o.op = false) (hre : readOp o.op = false) (hl : bitsIn (σ.done ^^^ σ.last) (cl.getD j 0) = true)
    (hch : newest (cl.getD j 0) σ.chs = true) (hfo : fOK os (cl.getD j 0) σ.got σ.done = true) (hw : pWanted os s o = some false) (hcan : s.can o.dst = true)
    (h : PD P O os cl base js ⟨σ.done ||| 2 ^ j, σ.done ||| 2 ^ j, σ.got ||| cl.getD j 0, chsAfter j [] false σ.chs⟩ (s.upd o.dst (.tup [])) Q) : PD P O os cl base (j :: js) σ s Q := fun lo n ps C e a m chE hR =>
  PD.chief_core ho hf hd hc hpu hre hl hch hfo hR ⟨0, undef, m.ins σ.done ps, e, fun k _ => do_not hR.rel hw _, hR.rel.refl, rv_undef, fun _ _ _ _ => rfl, fun _ _ _ => rfl⟩ hcan h
theorem sameBack_not {rec : Rec} {a : AAct} {H : AH} {C : Ctx} {e : Env} {c : Nat} {ps : List Pend} (hR : RelA C e s a H) (hw : pWanted os s o = some false) : ∀ (chs : List (Nat × PM)), sameBack P rec os ps a o undef c chs = true
  | [] => rfl
  | (i, m) :: l => by
    unfold sameBack
    split
    · rfl
    · rw [do_not hR hw, sameBack_not hR hw l]; simp [veq, undef]
/-- one that is not wanted, and changes no memory otherwise -/
theorem PD.skipQ (ho : os[j]? = some o) (hf : floatOp o = false) (hd : σ.done.testBit j = false) (hc : bitsIn (cl.getD j 0) σ.done = true) (hpu : (pureOp P o.op || readOp o.op) = true) (hw : pWanted os s o = some false) (hcan : s.can o.dst = true)
    (h : PD P O os cl base js { σ with done := σ.done ||| 2 ^ j } (s.upd o.dst (.tup [])) Q) : PD P O os cl base (j :: js) σ s Q := fun lo n ps C e a m chE hR => by
  obtain ⟨N, hN⟩ := h lo n ps C e (a.upd o.dst undef) m chE (hR.quiet ho hf (hR.rel.upd hcan hR.rel.refl rv_undef))
  refine ⟨N, fun k hk => ?_⟩
  obtain ⟨D, d1, d2⟩ := hN k hk
  refine ⟨D, ?_, d2⟩
  rw [List.foldlM_cons]
  have hdo := do_not (P := P) (rec := oRun P O k) hR.rel hw (m.ins (cl.getD j 0) ps)
  have hsb := sameBack_not (P := P) (rec := oRun P O k) (c := cl.getD j 0) (ps := ps) hR.rel hw chE
  have : dStep P (oRun P O k) os cl ⟨σ.done, σ.last, chE, a, m, ps⟩ j = .ok ⟨σ.done ||| 2 ^ j, σ.last, chE, a.upd o.dst undef, m, ps⟩ := by
    unfold dStep
    simp only [ho, hd, hc, hf, Bool.false_eq_true, if_false, Bool.not_true, hdo]
    simp only [bind, Except.bind, hR.rel.put hcan, hsb, if_true]
    cases h1 : pureOp P o.op with
    | true => simp
    | false =>
      rw [h1] at hpu
      have h2 : readOp o.op = true := by simpa using hpu
      simp [h2]
  rw [this]
  exact d1

theorem PD.chief {p : PV} {fr' : List PRow} {tk' : List Nat} {T : List Nat} {loud : Bool} (ho : os[j]? = some o) (hf : floatOp o = false) (hd : σ.done.testBit j = false) (hc : bitsIn (cl.getD j 0) σ.done = true) (hpu : pureOp P o.op = false) (hre : readOp o.op = false) (hl : bitsIn (σ.done ^^^ σ.last) (cl.getD j 0) = true)
    (hch : newest (cl.getD j 0) σ.chs = true) (hfo : fOK os (cl.getD j 0) σ.got σ.done = true) (hw : pWanted os s o = some true) (hE : Effect P O s o p fr' tk' T loud) (hcan : s.can o.dst = true)
    (h : PD P O os cl base js ⟨σ.done ||| 2 ^ j, σ.done ||| 2 ^ j, σ.got ||| cl.getD j 0, chsAfter j T loud σ.chs⟩ ((s.mem fr' tk').upd o.dst p) Q) : PD P O os cl base (j :: js) σ s Q := fun lo n ps C e a m chE hR => PD.chief_one ho hf hd hc hpu hre hl hch hfo hw hE.1 hR (hE.2 C e a _ hR.rel) hcan h

/-! ### An allocation that floats -/
theorem RelA.insert {C : Ctx} {e : Env} {s : PS} {a : AAct} {H H' : AH} (hR : RelA C e s a H) {id : Nat} {ty : TypeId} {zs : List Value} (hlo : C.H0.next ≤ id) (hlt : id < H.next) (habs : H.get id = none) (htok : ∀ (t : Nat) (τ : Tk), e.toks[t]? = some (some τ) → τ.fam ≠ id) (hn : H'.next = H.next) (hid : H'.get id = some (.row (newR ty id 0 zs)))
    (hoth : ∀ j, j ≠ id → H'.get j = H.get j) (hp : zs.all plainCell = true) : RelA C (e.row id) (s.mem (s.fr ++ [⟨0, zs.map .val⟩]) s.tk) a H' := by
  have hI := hR.h.inv
  have hne : ∀ j o, H.get j = some o → j ≠ id := fun j o hj e1 => by rw [e1, habs] at hj; cases hj
  have hnr : id ∉ e.rows := fun hm => by
    obtain ⟨k, hk, hk'⟩ := List.mem_iff_getElem.1 hm
    have hk2 : e.rows[k]? = some id := by rw [List.getElem?_eq_getElem hk, hk']
    obtain ⟨R, hRk⟩ := get_of_lt (l := s.fr) (i := k) (by rw [← hI.rlen]; exact hk)
    obtain ⟨o, h2, _⟩ := (hI.row k id R hk2 hRk).here
    rw [habs] at h2; cases h2
  have g : Grow e s.tk H (e.row id) s.tk H' := by
    refine ⟨by rw [hn]; exact Nat.le_refl _, fun k j hk => get_app_old hk, fun j fam en ⟨o, ho⟩ hs => ⟨by rw [hn]; exact hs.lt, by rw [hn]; exact hs.flt, hs.x, fun hm => ?_, hs.tok⟩, fun j r n hr _ => ⟨r, by rw [hoth j (hne j _ hr)]; exact hr, Meta.refl r, fun _ _ => rfl⟩, fun k n hk => ⟨n, hk, Nat.le_refl _, fun _ => rfl⟩⟩
    rcases List.mem_append.1 hm with h1 | h1
    · exact hs.row h1
    · simp at h1; exact hne j o ho h1
  obtain ⟨new, hn1, hn2⟩ := hR.h.ext.rows
  refine ⟨⟨⟨⟨fun j o ho => ?_, fun j r hr => ?_, esz_of hI.wf fun j r hr => ?_⟩, by simp [Env.row, PS.mem, hI.rlen], fun i j jd hi hj => ?_, fun k jd R hk hRk => ?_, hI.tlen, hI.tsep, fun t τ ht => by rw [hn]; exact hI.tlt t τ ht, fun t τ ht hm => ?_⟩, ⟨⟨new ++ [id], by show e.rows ++ [id] = _; rw [hn1, List.append_assoc], fun j hj => ?_⟩, hR.h.ext.tok, hR.h.ext.old, hR.h.ext.lim⟩, ⟨by rw [hn]; exact hR.h.frame.next, fun j r hr hj => ?_, fun j o ho hnr' hji => ?_, fun j h1 h2 => ?_, fun j r hr => by
    by_cases e1 : j = id
    · subst e1; rw [hid] at hr; cases hr; exact .inr hlo
    · rw [hoth j e1] at hr; exact hR.h.frame.fam j r hr⟩, hR.h.cw, ⟨hR.h.x.new, hR.h.x.tok⟩, hR.h.x0⟩, hR.n, hR.marks.step (fun m hm => by rw [hoth m (fun e => by subst e; rw [habs] at hm; cases hm)]; exact hm), hR.r0, hR.t0, fun t q ht => ?_⟩
  · by_cases e1 : j = id
    · rw [e1, hn]; exact hlt
    · rw [hoth j e1] at ho; rw [hn]; exact hI.wf.lt j o ho
  · by_cases e1 : j = id
    · subst e1; rw [hid] at hr; cases hr; rw [hn]; exact hlt
    · rw [hoth j e1] at hr; rw [hn]; exact hI.wf.fam j r hr
  · by_cases e1 : j = id
    · subst e1; rw [hid] at hr; cases hr; exact .inl rfl
    · rw [hoth j e1] at hr; exact .inr ⟨j, r, hr, rfl, rfl, rfl⟩
  · rcases get_app hi with ⟨_, h1⟩ | ⟨rfl, rfl⟩ <;> rcases get_app hj with ⟨_, h2⟩ | ⟨h3, h4⟩
    · exact hI.rnd i j jd h1 h2
    · subst h4; exact absurd (List.mem_of_getElem? h1) hnr
    · exact absurd (List.mem_of_getElem? h2) hnr
    · exact h3.symm
  · rcases get_app hk with ⟨h0, h1⟩ | ⟨rfl, rfl⟩
    · have hRk' : (s.fr ++ [⟨0, zs.map .val⟩])[k]? = some R := hRk
      rw [List.getElem?_append_left (by rw [← hI.rlen]; exact h0)] at hRk'
      obtain ⟨o, h2, _⟩ := (hI.row k jd R h1 hRk').here
      exact (hI.row k jd R h1 hRk').stay rfl (hoth jd (hne jd _ h2)) fun us h8 => h8.grow g
    · have hRk' : (s.fr ++ [⟨0, zs.map .val⟩])[e.rows.length]? = some R := hRk
      rw [hI.rlen, get_app_new] at hRk'
      cases hRk'
      exact .inl ⟨(by decide : (0 : Nat) ≠ mapE), _, zs, hid, rfl, rfl, rfl, rfl, rfl, rv_vals hp⟩
  · rcases List.mem_append.1 hm with h1 | h1
    · exact hI.tfr t τ ht h1
    · simp at h1; exact htok t τ ht h1
  · rcases List.mem_append.1 hj with h1 | h1
    · exact hn2 j h1
    · simp at h1; rw [h1]; exact hlo
  · obtain ⟨r', h1, h2, h3, h4⟩ := hR.h.frame.row j r hr hj
    exact ⟨r', by rw [hoth j (hne j _ h1)]; exact h1, h2, h3, h4⟩
  · have h1 := hR.h.frame.oth j o ho hnr' hji
    rw [hoth j (hne j _ h1)]; exact h1
  · have h3 := hR.h.frame.gone j h1 h2
    rw [hoth j (fun e1 => by rw [e1] at h1; omega)]; exact h3
  · obtain ⟨v, h1, h2⟩ := hR.tm t q ht
    exact ⟨v, h1, h2.grow g⟩

/-- the list of pending allocations, with what lies in one of them -/
theorem agree_set {d j : Nat} {r : Row} (hj : d.testBit j = false) : ∀ (ps : List Pend), Agree d ps (setRow j r ps)
  | [] => trivial
  | p :: l => by
    unfold setRow
    cases hb : (p.op == j) with
    | true =>
      simp only [beq_iff_eq] at hb
      exact ⟨⟨rfl, rfl, rfl, fun hd => by rw [hb, hj] at hd; cases hd⟩, agree_set hj l⟩
    | false => exact ⟨⟨rfl, rfl, rfl, fun _ => rfl⟩, agree_set hj l⟩
theorem set_mem {j : Nat} {r : Row} : ∀ {ps : List Pend} {p : Pend}, p ∈ ps → ∃ q ∈ setRow j r ps, q.op = p.op ∧ q.id = p.id
  | x :: l, p, hp => by
    unfold setRow
    rcases List.mem_cons.1 hp with rfl | hp
    · refine ⟨_, List.mem_cons_self, ?_⟩
      split <;> exact ⟨rfl, rfl⟩
    · obtain ⟨q, h1, h2⟩ := set_mem (j := j) (r := r) hp
      exact ⟨q, List.mem_cons_of_mem _ h1, h2⟩
theorem RelD.set {lo n : Nat} {ps : List Pend} {C : Ctx} {e : Env} {a : AAct} {m : PM} {chE : List (Nat × PM)} (hR : RelD P os base lo n ps C e s a m σ chE) (hd : σ.done.testBit j = false) (r : Row) : RelD P os base lo n (setRow j r ps) C e s a m σ chE := by
  have ha := agree_set (r := r) hd ps
  have hi : m.ins σ.done (setRow j r ps) = m.ins σ.done ps := (ha.insM (fun i h => h)).symm
  have back : ∀ q ∈ setRow j r ps, ∃ p ∈ ps, p.op = q.op ∧ p.id = q.id := fun q hq => by
    obtain ⟨p, h1, h2, h3, _⟩ := ha.mem q hq; exact ⟨p, h1, h2, h3⟩
  refine ⟨by rw [hi]; exact hR.rel, hR.got, hR.pd.agree ha, fun k o h1 h2 => ?_, hR.lo, hR.hi, fun q hq h => ?_, fun q hq h => ?_, fun q hq h => ?_, fun q hq h => ?_, ⟨hR.bs.1, fun k id h1 h2 q hq => ?_⟩, fun q hq h => ?_, hR.len, fun i x y h1 h2 => ?_⟩
  · obtain ⟨p, h3, h4⟩ := hR.all k o h1 h2
    obtain ⟨q, h5, h6, _⟩ := set_mem (j := j) (r := r) h3
    exact ⟨q, h5, by rw [h6]; exact h4⟩
  · obtain ⟨p, h1, h2, h3⟩ := back q hq
    rw [hi, ← h3]; exact hR.gone p h1 (by rw [h2]; exact h)
  · obtain ⟨p, h1, h2, h3⟩ := back q hq
    rw [hi, ← h3]; exact hR.famx p h1 (by rw [h2]; exact h)
  · obtain ⟨p, h1, h2, h3⟩ := back q hq
    rw [← h3]; exact hR.tok p h1 (by rw [h2]; exact h)
  · obtain ⟨p, h1, h2, h3⟩ := back q hq
    rw [← h2]; exact hR.sub p h1 (by rw [h2]; exact h)
  · obtain ⟨p, h3, h4, h5⟩ := back q hq
    rw [← h5]; exact hR.bs.2 k id h1 h2 p h3
  · obtain ⟨p, h1, h2, h3⟩ := back q hq
    rw [← h3, ← h2]; exact hR.exec p h1 (by rw [h2]; exact h)
  · obtain ⟨e1, e2, e3⟩ := hR.back i x y h1 h2
    rw [hi]
    exact ⟨e1, e2, fun hlo id hfree hT => e3 hlo id (fun p hp => by
      obtain ⟨q, h5, _, h6⟩ := set_mem (j := j) (r := r) hp
      rw [← h6]; exact hfree q h5) hT⟩

theorem PD.float_core (ho : os[j]? = some o) (hf : floatOp o = true) (hd : σ.done.testBit j = false) (hc : bitsIn (cl.getD j 0) σ.done = true) (hgt : σ.got.testBit j = false) {s1 : PS} {lo n : Nat} {ps : List Pend} {C : Ctx} {e e' : Env} {a : AAct} {m : PM} {chE : List (Nat × PM)} (hR : RelD P os base lo n ps C e s a m σ chE)
    {p : Pend} (hpo : pendOf ps j = some p) {r : Row} (hrow : floatRowOf P a o.op p.id = .ok r) (hrf : r.fam = p.id) (hput : a.put o.dst p.val = .ok (a.upd o.dst p.val)) (hrows : (e'.rows = e.rows ∧ litAt os j = true) ∨ e'.rows = e.rows ++ [p.id]) (htoks : e'.toks = e.toks)
    (hins : ∀ H' : AH, H'.next = (m.ins σ.done ps).next → H'.get p.id = some (.row r) → (∀ i, i ≠ p.id → H'.get i = (m.ins σ.done ps).get i) → RelA C e' s1 (a.upd o.dst p.val) H')
    (h : PD P O os cl base js { σ with done := σ.done ||| 2 ^ j } s1 Q) : ∃ N, ∀ k, N ≤ k → ∃ D, (j :: js).foldlM (dStep P (oRun P O k) os cl) ⟨σ.done, σ.last, chE, a, m, ps⟩ = .ok D ∧ D.done = 2 ^ os.length - 1 ∧ UpO C Q D.a (D.m.ins D.done D.ps) := by
  have hi0 : m.ins σ.done (setRow j r ps) = m.ins σ.done ps := ((agree_set hd ps).insM (fun i h => h)).symm
  have hpm := (pendOf_ok (pend_set (r := r) hpo)).1
  have hpj : p.op = j := (pendOf_ok hpo).2
  have hS := hR.set hd r
  have hstep : ∀ k, dStep P (oRun P O k) os cl ⟨σ.done, σ.last, chE, a, m, ps⟩ j = .ok ⟨σ.done ||| 2 ^ j, σ.last, chE, a.upd o.dst p.val, m, setRow j r ps⟩ := fun k => by
    unfold dStep
    simp only [ho, hd, hc, hf, hpo, Bool.false_eq_true, if_false, Bool.not_true]
    simp only [bind, Except.bind, hrow, hput]
  rw [← hi0] at hins
  clear hR hpo hi0
  generalize setRow j r ps = qs at *
  have hR := hS
  have hnext : ∀ c, (m.ins c qs).next = m.H.next := fun c => ins_next _ _ _ _
  have uniq : ∀ q ∈ qs, q.op = j → q.id = p.id := fun q hq e1 => by
    obtain ⟨i1, h1, rfl⟩ := List.mem_iff_getElem.1 hq
    obtain ⟨i2, h2, h2'⟩ := List.mem_iff_getElem.1 hpm
    have hs' := List.pairwise_iff_getElem.1 hR.pd.sep
    rcases Nat.lt_trichotomy i1 i2 with h3 | h3 | h3
    · have := (hs' i1 i2 h1 h2 h3).1; rw [h2'] at this; simp only at this; omega
    · subst h3; rw [h2']
    · have := (hs' i2 i1 h2 h1 h3).1; rw [h2'] at this; simp only at this; omega
  have uniq2 : ∀ q ∈ qs, q.op ≠ j → q.id ≠ p.id := fun q hq hne e1 => by
    obtain ⟨i1, h1, rfl⟩ := List.mem_iff_getElem.1 hq
    obtain ⟨i2, h2, h2'⟩ := List.mem_iff_getElem.1 hpm
    have hs' := List.pairwise_iff_getElem.1 hR.pd.sep
    rcases Nat.lt_trichotomy i1 i2 with h3 | h3 | h3
    · have := (hs' i1 i2 h1 h2 h3).2; rw [h2'] at this; simp only at this; omega
    · subst h3; rw [h2'] at hne; exact hne hpj
    · have := (hs' i2 i1 h2 h1 h3).2; rw [h2'] at this; simp only at this; omega
  have hother : ∀ i, i ≠ p.id → (m.ins (σ.done ||| 2 ^ j) qs).get i = (m.ins σ.done qs).get i := fun i hi => by
    by_cases hs : ∃ q ∈ qs, σ.done.testBit q.op = true ∧ m.got.testBit q.op = false ∧ q.id = i
    · obtain ⟨q, hq, a1, a2, rfl⟩ := hs
      unfold PM.ins
      rw [ins_in qs _ (fun _ _ => Nat.le_refl _) hR.pd.sep q hq a1 a2, ins_in qs _ (fun _ _ => Nat.le_refl _) hR.pd.sep q hq (by rw [Nat.testBit_or, a1]; rfl) a2]
    · unfold PM.ins
      rw [ins_not qs _ (fun _ _ => Nat.le_refl _) (fun q hq a1 a2 e1 => hs ⟨q, hq, a1, a2, e1⟩), ins_not qs _ (fun _ _ => Nat.le_refl _) (fun q hq a1 a2 e1 => ?_)]
      rw [Nat.testBit_or, Bool.or_eq_true] at a1
      rcases a1 with a1 | a1
      · exact hs ⟨q, hq, a1, a2, e1⟩
      · have : j = q.op := by rw [Nat.testBit_two_pow] at a1; simpa using a1
        exact hi (by rw [← e1]; exact uniq q hq this.symm)
  have hself : (m.ins (σ.done ||| 2 ^ j) qs).get p.id = some (.row r) := by
    unfold PM.ins
    exact ins_in qs _ (fun _ _ => Nat.le_refl _) hR.pd.sep _ hpm (by show (σ.done ||| 2 ^ j).testBit p.op = true; rw [hpj, Nat.testBit_or, Nat.testBit_two_pow]; simp) (by rw [hR.got]; show σ.got.testBit p.op = false; rw [hpj]; exact hgt)
  have hup := hins (m.ins (σ.done ||| 2 ^ j) qs) (by rw [hnext, hnext]) hself hother
  have hnd : ∀ q ∈ qs, (σ.done ||| 2 ^ j).testBit q.op = false → q.op ≠ j ∧ σ.done.testBit q.op = false := fun q hq h1 => by
    rw [Nat.testBit_or, Bool.or_eq_false_iff] at h1
    refine ⟨fun e1 => ?_, h1.1⟩
    rw [e1, Nat.testBit_two_pow] at h1
    simp at h1
  have hkeep : ∀ (k id : Nat), k < base → e'.rows[k]? = some id → e.rows[k]? = some id := fun k id hkb hid => by
    rcases hrows with ⟨h1, _⟩ | h1
    · rw [h1] at hid; exact hid
    · rw [h1, List.getElem?_append_left (Nat.lt_of_lt_of_le hkb hR.bs.1)] at hid; exact hid
  have hold : ∀ (k id : Nat), e.rows[k]? = some id → e'.rows[k]? = some id := fun k id hid => by
    rcases hrows with ⟨h1, _⟩ | h1
    · rw [h1]; exact hid
    · rw [h1]; exact get_app_old hid
  have hmem : ∀ id ∈ e.rows, id ∈ e'.rows := fun id hid => by
    rcases hrows with ⟨h1, _⟩ | h1
    · rw [h1]; exact hid
    · rw [h1]; exact List.mem_append_left _ hid
  obtain ⟨N, hN⟩ := h lo n qs C e' (a.upd o.dst p.val) m chE (by
    refine ⟨hup, hR.got, hR.pd, hR.all, hR.lo, hR.hi, fun q hq hqd => ?_, fun q hq hqd i r' hr' => ?_, fun q hq hqd t τ ht => hR.tok q hq (hnd q hq hqd).2 t τ (by rw [← htoks]; exact ht), fun q hq hqg => ?_, ⟨?_, fun k id hkb hid q hq => hR.bs.2 k id hkb (hkeep k id hkb hid) q hq⟩, fun q hq hqd => ?_, hR.len, fun i x y hx hy => ?_⟩
    · obtain ⟨h1, h2⟩ := hnd q hq hqd
      show (m.ins (σ.done ||| 2 ^ j) qs).get q.id = none
      rw [hother _ (uniq2 q hq h1)]; exact hR.gone q hq h2
    · obtain ⟨h1, h2⟩ := hnd q hq hqd
      have hr2 : (m.ins (σ.done ||| 2 ^ j) qs).get i = some (.row r') := hr'
      by_cases e1 : i = p.id
      · rw [e1, hself] at hr2; cases hr2
        rw [hrf]; exact fun e2 => uniq2 q hq h1 e2.symm
      · rw [hother i e1] at hr2; exact hR.famx q hq h2 i r' hr2
    · show (σ.done ||| 2 ^ j).testBit q.op = true
      rw [Nat.testBit_or, hR.sub q hq hqg]; rfl
    · rcases hrows with ⟨h1, _⟩ | h1
      · rw [h1]; exact hR.bs.1
      · rw [h1, List.length_append]; have := hR.bs.1; omega
    · by_cases hqj : q.op = j
      · rw [uniq q hq hqj]
        rcases hrows with ⟨_, h2⟩ | h1
        · rw [hqj]; exact .inr h2
        · rw [h1]; exact .inl (by simp)
      · have hqd' : (σ.done ||| 2 ^ j).testBit q.op = true := hqd
        rw [bit_or hqj] at hqd'
        exact (hR.exec q hq hqd').imp (hmem _) id
    · obtain ⟨e1, e2, e3⟩ := hR.back i x y hx hy
      refine ⟨e1, fun k id hkb hkT hid => ?_, fun hlo id hfree hT => ?_⟩
      · show _ = (m.ins (σ.done ||| 2 ^ j) qs).get id
        rw [hother id (fun e4 => hR.bs.2 k id hkb (hkeep k id hkb hid) _ hpm e4.symm)]
        exact e2 k id hkb hkT (hkeep k id hkb hid)
      · show _ = (m.ins (σ.done ||| 2 ^ j) qs).get id
        rw [hother id (fun e4 => hfree _ hpm e4.symm)]
        exact e3 hlo id hfree (fun k hk hid => hT k hk (hold k id hid)))
  refine ⟨N, fun k hk => ?_⟩
  obtain ⟨D, d1, d2⟩ := hN k hk
  refine ⟨D, ?_, d2⟩
  rw [List.foldlM_cons, hstep k]
  exact d1

theorem RelD.pend (ho : os[j]? = some o) (hf : floatOp o = true) {lo n : Nat} {ps : List Pend} {C : Ctx} {e : Env} {a : AAct} {m : PM} {chE : List (Nat × PM)} (hR : RelD P os base lo n ps C e s a m σ chE) : ∃ p, pendOf ps j = some p ∧ p ∈ ps ∧ p.op = j ∧ p.val = floatVal o.op p.id ∧ lo ≤ p.id ∧ p.id < n := by
  cases hpo : pendOf ps j with
  | none =>
    obtain ⟨p, hpm, hpj⟩ := hR.all j o ho hf
    have : (pendOf ps j).isSome = true := by
      unfold pendOf
      rw [List.find?_isSome]
      exact ⟨p, hpm, by simpa using hpj⟩
    rw [hpo] at this; cases this
  | some p =>
    obtain ⟨hpm, hpj⟩ := pendOf_ok hpo
    obtain ⟨q1, q2, o', g1, g2, g3⟩ := hR.pd.mem p hpm
    rw [hpj, ho] at g1; cases g1
    exact ⟨p, rfl, hpm, hpj, g3, q1, q2⟩

theorem PD.float {t : TypeId} {zs : List Value} (ho : os[j]? = some o) (hop : o.op = .alloc t) (hg : o.guard = none) (hd : σ.done.testBit j = false) (hc : bitsIn (cl.getD j 0) σ.done = true) (hz : tZero P t = .ok zs) (hp : zs.all plainCell = true) (hgt : σ.got.testBit j = false) (hcan : s.can o.dst = true)
    (h : PD P O os cl base js { σ with done := σ.done ||| 2 ^ j } ((s.mem (s.fr ++ [⟨0, zs.map .val⟩]) s.tk).upd o.dst (.ptr s.fr.length 0)) Q) : PD P O os cl base (j :: js) σ s Q := fun lo n ps C e a m chE hR => by
  have hf : floatOp o = true := by unfold floatOp; rw [hop, hg]
  obtain ⟨p, hpo, hpm, hpj, hval, q1, q2⟩ := hR.pend ho hf
  have hdn : σ.done.testBit p.op = false := by rw [hpj]; exact hd
  have hval' : p.val = .pointer (some ⟨p.id, 0, none⟩) := by rw [hval, hop]; rfl
  refine PD.float_core ho hf hd hc hgt hR hpo (r := newR t p.id 0 zs) (e' := e.row p.id) ?_ rfl ?_ (.inr rfl) rfl (fun H' hn hid hoth => ?_) h
  · rw [hop]; simp only [floatRowOf, hz]; rfl
  · exact hR.rel.put hcan
  · have hins := hR.rel.insert (H' := H') (id := p.id) (ty := t) (zs := zs) (Nat.le_trans hR.lo q1) (by rw [show (m.ins σ.done ps).next = m.H.next from ins_next _ _ _ _]; exact Nat.lt_of_lt_of_le q2 hR.hi) (hR.gone p hpm hdn) (hR.tok p hpm hdn) hn hid hoth hp
    have hptr : RV (e.row p.id) (s.mem (s.fr ++ [⟨0, zs.map .val⟩]) s.tk).tk H' true (.ptr s.fr.length 0) (.pointer (some ⟨p.id, 0, none⟩)) := by
      refine .ptr ?_
      rw [← hR.rel.h.inv.rlen]; exact get_app_new
    rw [hval']
    exact RelA.upd hins (d := o.dst) hcan (p := .ptr s.fr.length 0) (v := .pointer (some ⟨p.id, 0, none⟩)) (Step.refl hins.h.inv) hptr

/-- a literal's list, laid into the memory -/
theorem RelA.insertL {C : Ctx} {e : Env} {s : PS} {a : AAct} {H H' : AH} (hR : RelA C e s a H) {id sz : Nat} {ty : TypeId} {vs : List Value} {l : List (List PV)} (hlo : C.H0.next ≤ id) (hlt : id < H.next) (habs : H.get id = none) (htok : ∀ (t : Nat) (τ : Tk), e.toks[t]? = some (some τ) → τ.fam ≠ id) (hn : H'.next = H.next) (hid : H'.get id = some (.row (newR ty id sz vs)))
    (hoth : ∀ j, j ≠ id → H'.get j = H.get j) (hfm : ∀ (j : Nat) (r : Row), H.get j = some (.row r) → r.fam ≠ id) (hl : Lies e s.tk H sz l vs) : RelA C e s a H' ∧ RV e s.tk H' true (.list sz l none) (.slice (some ⟨id, 0, none⟩) l.length l.length) := by
  have hI := hR.h.inv
  have hne : ∀ j o, H.get j = some o → j ≠ id := fun j o hj e1 => by rw [e1, habs] at hj; cases hj
  have hnr : id ∉ e.rows := fun hm => by
    obtain ⟨k, hk, hk'⟩ := List.mem_iff_getElem.1 hm
    have hk2 : e.rows[k]? = some id := by rw [List.getElem?_eq_getElem hk, hk']
    obtain ⟨R, hRk⟩ := get_of_lt (l := s.fr) (i := k) (by rw [← hI.rlen]; exact hk)
    obtain ⟨o, h2, _⟩ := (hI.row k id R hk2 hRk).here
    rw [habs] at h2; cases h2
  have g : Grow e s.tk H e s.tk H' :=
    ⟨by rw [hn]; exact Nat.le_refl _, fun k j hk => hk, fun j fam en ⟨o, ho⟩ hs => ⟨by rw [hn]; exact hs.lt, by rw [hn]; exact hs.flt, hs.x, hs.row, hs.tok⟩, fun j r n hr _ => ⟨r, by rw [hoth j (hne j _ hr)]; exact hr, Meta.refl r, fun _ _ => rfl⟩, fun k n hk => ⟨n, hk, Nat.le_refl _, fun _ => rfl⟩⟩
  refine ⟨⟨⟨⟨⟨fun j o ho => ?_, fun j r hr => ?_, fun j j' r r' hr hr' hff hro z1 z2 => ?_⟩, hI.rlen, hI.rnd, fun k jd R hk hRk => ?_, hI.tlen, hI.tsep, fun t τ ht => by rw [hn]; exact hI.tlt t τ ht, hI.tfr⟩, hR.h.ext, ⟨by rw [hn]; exact hR.h.frame.next, fun j r hr hj => ?_, fun j o ho hnr' hji => ?_, fun j h1 h2 => ?_, fun j r hr => by
    by_cases e1 : j = id
    · subst e1; rw [hid] at hr; cases hr; exact .inr hlo
    · rw [hoth j e1] at hr; exact hR.h.frame.fam j r hr⟩, hR.h.cw, hR.h.x, hR.h.x0⟩, hR.n, hR.marks.step (fun m hm => by rw [hoth m (fun e => by subst e; rw [habs] at hm; cases hm)]; exact hm), hR.r0, hR.t0, fun t q ht => ?_⟩, ?_⟩
  · by_cases e1 : j = id
    · rw [e1, hn]; exact hlt
    · rw [hoth j e1] at ho; rw [hn]; exact hI.wf.lt j o ho
  · by_cases e1 : j = id
    · subst e1; rw [hid] at hr; cases hr; rw [hn]; exact hlt
    · rw [hoth j e1] at hr; rw [hn]; exact hI.wf.fam j r hr
  · by_cases e1 : j = id
    · rw [e1, hid] at hr; cases hr
      by_cases e2 : j' = id
      · rw [e2, hid] at hr'; cases hr'; rfl
      · rw [hoth j' e2] at hr'; exact absurd hff.symm (hfm j' r' hr')
    · rw [hoth j e1] at hr
      by_cases e2 : j' = id
      · rw [e2, hid] at hr'; cases hr'; exact absurd hff (hfm j r hr)
      · rw [hoth j' e2] at hr'; exact hI.wf.esz j j' r r' hr hr' hff hro z1 z2
  · obtain ⟨o, h2, _⟩ := (hI.row k jd R hk hRk).here
    exact (hI.row k jd R hk hRk).stay rfl (hoth jd (hne jd _ h2)) fun us h8 => h8.grow g
  · obtain ⟨r', h1, h2, h3, h4⟩ := hR.h.frame.row j r hr hj
    exact ⟨r', by rw [hoth j (hne j _ h1)]; exact h1, h2, h3, h4⟩
  · have h1 := hR.h.frame.oth j o ho hnr' hji
    rw [hoth j (hne j _ h1)]; exact h1
  · have h3 := hR.h.frame.gone j h1 h2
    rw [hoth j (fun e1 => by rw [e1] at h1; omega)]; exact h3
  · obtain ⟨v, h1, h2⟩ := hR.tm t q ht
    exact ⟨v, h1, h2.grow g⟩
  · refine RV.mkList (vs := vs) (hl.grow g) hid ⟨by rw [hn]; exact hlt, by rw [hn]; exact hlt, hR.h.x.new _ _ _ hlo hlo, hnr, fun t τ n ht _ hf => absurd hf.symm (htok t τ ht)⟩ rfl (Nat.le_refl _) (fun x v hv => ?_) ?_ (fun k hk => by cases hk)
    · show (vs.map some)[0 + x]? = _
      rw [Nat.zero_add, List.getElem?_map, hv]; rfl
    · show 0 + l.length * sz ≤ (vs.map some).length
      rw [List.length_map, hl.1]; omega

theorem lit_row {t : TypeId} {len sz : Nat} {parts : Array (Nat × Operand)} {l : List (List PV)} (h : pLit P s t len parts.toList = some (sz, l)) {C : Ctx} {e : Env} {a : AAct} {H : AH} (hR : RelA C e s a H) : ∃ elem vs, l.length = len ∧ Lies e s.tk H sz l vs ∧ ∀ id, floatRowOf P a (.buildSlice t len parts) id = .ok (newR elem id sz vs) := by
  unfold pLit at h
  cases ht : P.underlying t with
  | none => rw [ht] at h; cases h
  | some D =>
    rw [ht] at h
    cases D with
    | slice elem =>
      simp only at h
      cases hps : pParts s parts.toList with
      | none => rw [hps] at h; cases h
      | some ps =>
        cases hs : tSize P elem with
        | error n => rw [hps, hs] at h; cases h
        | ok size =>
          cases hz : tZero P elem with
          | error n => rw [hps, hs, hz] at h; cases h
          | ok zs =>
            rw [hps, hs, hz] at h
            obtain ⟨hle, h⟩ := pick_some h
            obtain ⟨hpl, h⟩ := pick_some h
            cases hf : pFill (fun i => some (i * size, size)) ((repeated zs len).map .val) ps with
            | none => rw [hf] at h; cases h
            | some cells =>
              rw [hf] at h
              simp only at h
              cases hlo : lows cells with
              | none => rw [hlo] at h; cases h
              | some cs =>
                rw [hlo] at h
                obtain ⟨hcl, h⟩ := pick_some h
                cases h
                obtain ⟨vs, h1, h2⟩ := hR.parts hps
                obtain ⟨r, k1, k2⟩ := fill_rv ps vs _ (repeated zs len).toArray _ h2 (rv_vals (all_repeated hpl len)) hf
                obtain ⟨k3, k4⟩ := lows_rv k2 hlo
                have hli := lies_chunk (n := len) k3 k4 (Nat.eq_of_beq_eq_true hcl)
                rw [Nat.ble_eq] at hle
                have hle' : ¬ len * sz > 16777216 := by omega
                refine ⟨elem, _, chunk_len _ _ _, hli, fun id => ?_⟩
                simp only [floatRowOf, ht]
                rw [h1]
                simp only [bind, Except.bind, hs, if_neg hle', hz, k1]
                rfl
    | _ => cases h

theorem PD.floatL {t : TypeId} {len sz : Nat} {parts : Array (Nat × Operand)} {l : List (List PV)} (ho : os[j]? = some o) (hop : o.op = .buildSlice t len parts) (hg : o.guard = none) (hd : σ.done.testBit j = false) (hc : bitsIn (cl.getD j 0) σ.done = true) (hp : pLit P s t len parts.toList = some (sz, l)) (hgt : σ.got.testBit j = false) (hcan : s.can o.dst = true)
    (h : PD P O os cl base js { σ with done := σ.done ||| 2 ^ j } ((s.mem s.fr s.tk).upd o.dst (.list sz l none)) Q) : PD P O os cl base (j :: js) σ s Q := fun lo n ps C e a m chE hR => by
  have hf : floatOp o = true := by unfold floatOp; rw [hop, hg]
  obtain ⟨p, hpo, hpm, hpj, hval, q1, q2⟩ := hR.pend ho hf
  have hdn : σ.done.testBit p.op = false := by rw [hpj]; exact hd
  have hval' : p.val = .slice (some ⟨p.id, 0, none⟩) len len := by rw [hval, hop]; rfl
  obtain ⟨elem, vs, w1, w2, w3⟩ := lit_row hp hR.rel
  refine PD.float_core ho hf hd hc hgt hR hpo (r := newR elem p.id sz vs) (e' := e) ?_ rfl ?_ (.inl ⟨rfl, ?_⟩) rfl (fun H' hn hid hoth => ?_) h
  · rw [hop]; exact w3 _
  · exact hR.rel.put hcan
  · unfold litAt; rw [ho]; simp only [hop]
  · obtain ⟨hins, hrv⟩ := hR.rel.insertL (H' := H') (id := p.id) (ty := elem) (vs := vs) (Nat.le_trans hR.lo q1) (by rw [show (m.ins σ.done ps).next = m.H.next from ins_next _ _ _ _]; exact Nat.lt_of_lt_of_le q2 hR.hi) (hR.gone p hpm hdn) (hR.tok p hpm hdn) hn hid hoth (hR.famx p hpm hdn) w2
    rw [hval', ← w1]
    exact RelA.upd hins (d := o.dst) hcan (Step.refl hins.h.inv) hrv

end rules
end
end Go.Eng
