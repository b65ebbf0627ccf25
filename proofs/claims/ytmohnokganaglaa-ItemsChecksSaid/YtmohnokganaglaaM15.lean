/-
  A region whose order is open, where reads and stores lie side by side: what a read tells does not turn by the stores that it need not wait for.
-/
import Derived.Test.YtmohnokganaglaaM14
set_option linter.unusedSimpArgs false
set_option linter.unusedVariables false
namespace Go.Eng
noncomputable section
variable {P : Program} {O : FuncId → Option Value}

/-- may the region be gone through in this order, but for what reads tell? -/
def looseGo (P : Program) (os : List Oper) (cl : List Nat) : List Nat → Nat → Nat → Option Nat → Bool
  | [], done, _, _ => done == 2 ^ os.length - 1
  | j :: js, done, last, ch =>
    match os[j]? with
    | none => false
    | some o => !done.testBit j && (bitsIn (cl.getD j 0) done && (!floatOp o && ((deferOf o.op).isNone &&
      (if pureOp P o.op then looseGo P os cl js (done ||| 2 ^ j) last ch
       else if readOp o.op then looseGo P os cl js (done ||| 2 ^ j) last ch
       else bitsIn (done ^^^ last) (cl.getD j 0) && ((match ch with | none => true | some c => (cl.getD j 0).testBit c) && looseGo P os cl js (done ||| 2 ^ j) (done ||| 2 ^ j) (some j))))))

def looseDraw (P : Program) (os : List Oper) (order : List Nat) : Bool :=
  (P.follows .mixedOrders && (tmpsRight os (clos os) && (os.all (fun o => !floatOp o) && (drawOrder P os (clos os) == order && looseGo P os (clos os) order 0 0 none))))

/-- a run along an order: reads tell the same in the memories ahead of the chief operations that they need not wait for -/
def okDraw (P : Program) (rec : Rec) (os : List Oper) (cl : List Nat) : List Nat → AAct → AH → List (Nat × AH) → AAct → AH → Prop
  | [], a, H, _, a', H' => a = a' ∧ H = H'
  | j :: js, a, H, chs, a', H' => ∃ o v H1 a1, os[j]? = some o ∧ aDo P rec os a H o = .ok (v, H1) ∧ a.put o.dst v = .ok a1 ∧
      (readOp o.op = true → ∀ x ∈ chs, (cl.getD j 0).testBit x.1 = true ∨ ∃ u, aDo P rec os a x.2 o = .ok (u, x.2) ∧ veq 3 v u = true) ∧
      okDraw P rec os cl js a1 H1 (if pureOp P o.op then chs else if readOp o.op then chs else (j, H) :: chs) a' H'

theorem sameBack_of {rec : Rec} {os : List Oper} {a : AAct} {o : Oper} {v : Value} {c : Nat} : ∀ (chs : List (Nat × PM)), (∀ x ∈ chs, c.testBit x.1 = true ∨ ∃ u, aDo P rec os a x.2.H o = .ok (u, x.2.H) ∧ veq 3 v u = true) → sameBack P rec os [] a o v c chs = true
  | [], _ => rfl
  | (j, m) :: l, h => by
    simp only [sameBack]
    split
    · rfl
    · rename_i hc
      rcases h (j, m) (by simp) with h1 | ⟨u, h1, h2⟩
      · exact absurd h1 hc
      · have hins : m.ins c [] = m.H := rfl
        rw [hins, h1]
        simp only [h2, Bool.true_and]
        exact sameBack_of l (fun x hx => h x (by simp [hx]))

theorem draw_loose {rec : Rec} {os : List Oper} {cl : List Nat} : ∀ (js : List Nat) (s : DS) (a' : AAct) (H' : AH), looseGo P os cl js s.done s.last (chOf s.chs) = true →
    okDraw P rec os cl js s.a s.m.H (s.chs.map fun x => (x.1, x.2.H)) a' H' → ∃ s', js.foldlM (dStep P rec os cl []) s = .ok s' ∧ s'.a = a' ∧ s'.m.H = H' ∧ s'.done = 2 ^ os.length - 1
  | [], s, a', H', hp, h => by
    simp only [looseGo, beq_iff_eq] at hp
    exact ⟨s, rfl, h.1, h.2, hp⟩
  | j :: js, s, a', H', hp, h => by
    obtain ⟨o, v, H1, a1, ho, g1, g2, hrd, g3⟩ := h
    simp only [looseGo] at hp
    rw [ho] at hp
    simp only [Bool.and_eq_true, Bool.not_eq_true', Option.isNone_iff_eq_none] at hp
    obtain ⟨h1, h2, h3, h4, h5⟩ := hp
    have hstep : ∀ s1, dStep P rec os cl [] s j = .ok s1 → s1.a = a1 → s1.m.H = H1 → (s1.chs.map fun x => (x.1, x.2.H)) = (if pureOp P o.op then (s.chs.map fun x => (x.1, x.2.H)) else if readOp o.op then (s.chs.map fun x => (x.1, x.2.H)) else (j, s.m.H) :: (s.chs.map fun x => (x.1, x.2.H))) →
        looseGo P os cl js s1.done s1.last (chOf s1.chs) = true → ∃ s', (j :: js).foldlM (dStep P rec os cl []) s = .ok s' ∧ s'.a = a' ∧ s'.m.H = H' ∧ s'.done = 2 ^ os.length - 1 := by
      intro s1 e1 e2 e3 e5 e4
      subst e2; subst e3
      rw [← e5] at g3
      obtain ⟨s', q1, q2⟩ := draw_loose js s1 a' H' e4 g3
      refine ⟨s', ?_, q2⟩
      rw [List.foldlM_cons, e1]
      exact q1
    have hins : ∀ c, s.m.ins c [] = s.m.H := fun c => rfl
    have hfl : floatsOf [] = 0 := rfl
    by_cases hpu : pureOp P o.op = true
    · rw [if_pos hpu] at h5
      have e : H1 = s.m.H := (aDo_pure hpu g1).1
      refine hstep { s with done := s.done ||| 2 ^ j, a := a1 } ?_ rfl e.symm (by rw [if_pos hpu]) h5
      unfold dStep
      simp only [ho, h1, h2, h3, Bool.false_eq_true, if_false, Bool.not_true, hins, g1]
      simp only [bind, Except.bind, g2, hpu, if_true]
    · rw [if_neg hpu] at h5
      by_cases hre : readOp o.op = true
      · rw [if_pos hre] at h5
        have e : H1 = s.m.H := aDo_read hre g1
        have hsb : sameBack P rec os [] s.a o v (cl.getD j 0) s.chs = true := by
          refine sameBack_of _ fun x hx => hrd hre (x.1, x.2.H) (List.mem_map.2 ⟨x, hx, rfl⟩)
        refine hstep { s with done := s.done ||| 2 ^ j, a := a1 } ?_ rfl e.symm (by rw [if_neg hpu, if_pos hre]) h5
        unfold dStep
        simp only [ho, h1, h2, h3, Bool.false_eq_true, if_false, Bool.not_true, hins, g1]
        simp only [bind, Except.bind, g2, hpu, hre, if_true, hsb, if_false]
        rfl
      · rw [if_neg hre] at h5
        simp only [Bool.and_eq_true] at h5
        have hb : bitsIn (s.done ^^^ s.last) (cl.getD j 0 ||| floatsOf []) = true := by rw [hfl, Nat.or_zero]; exact h5.1
        have hc : (match s.chs with | [] => true | (c0, _) :: _ => (cl.getD j 0).testBit c0) = true := by
          have := h5.2.1
          cases hch : s.chs with
          | nil => rfl
          | cons x l => rw [hch] at this; exact this
        refine hstep { done := s.done ||| 2 ^ j, last := s.done ||| 2 ^ j, chs := (j, s.m) :: s.chs, a := a1, m := ⟨H1, s.m.got ||| cl.getD j 0⟩ } ?_ rfl rfl (by rw [if_neg hpu, if_neg hre]; rfl) h5.2.2
        unfold dStep
        simp only [ho, h1, h2, h3, Bool.false_eq_true, if_false, Bool.not_true, hins, g1]
        simp only [bind, Except.bind, g2, hpu, hre, hb, if_false, Bool.not_true, Bool.false_eq_true]
        refine if_neg (fun hx => ?_)
        rw [Bool.not_eq_true'] at hx
        exact Bool.noConfusion (hc.symm.trans hx)

theorem WC.loose {rnd : Option Nat} {i : Nat} {ops : Array Oper} {z : Code} {a : AAct} {H : AH} {Q : AX → AAct → AH → Prop} {order : List Nat} (hp : looseDraw P ops.toList order = true)
    (h : ∃ n a1 H1, okDraw P (oRun P O n) ops.toList (clos ops.toList) order a H [] a1 H1 ∧ WC P O rnd z a1 H1 Q) : WC P O rnd (.seq (.region i ops true) z) a H Q := by
  obtain ⟨n, a1, H1, h1, h2⟩ := h
  refine WC.seq ⟨n + 1, .normal, a1, H1, ?_, h2⟩
  unfold looseDraw at hp
  simp only [Bool.and_eq_true, beq_iff_eq] at hp
  obtain ⟨hf, p2, p3, p4, p5⟩ := hp
  have hd : aDraw P (oRun P O n) ops.toList a H = .ok (a1, H1) := by
    unfold aDraw
    simp only [p2, if_true, reserve_none ops.toList 0 H.next p3, p4]
    obtain ⟨s', q1, q2, q3, q4⟩ := draw_loose order { done := 0, last := 0, chs := [], a := a, m := ⟨H, 0⟩ } a1 H1 p5 h1
    show (order.foldlM (dStep P (oRun P O n) ops.toList (clos ops.toList) []) { done := 0, last := 0, chs := [], a := a, m := ⟨H, 0⟩ } >>= fun s => if s.done = 2 ^ ops.toList.length - 1 then .ok (s.a, s.m.ins s.done []) else .error 121) = _
    rw [q1]
    show (if s'.done = 2 ^ ops.toList.length - 1 then Except.ok (s'.a, s'.m.ins s'.done []) else .error 121) = _
    rw [if_pos q4, ← q2, ← q3]
    rfl
  simp only [oRun, aStep, hf, Bool.not_true, Bool.false_eq_true, if_false, hd]
  rfl

/-! ### The same over values without a place -/
def touch (k : Nat) (chs : List (Nat × List Nat)) : List (Nat × List Nat) := chs.map fun x => (x.1, k :: x.2)

/-- does a read of this row tell the same ahead of those chief operations? -/
def readSame (c : Nat) (k : Option Nat) : List (Nat × List Nat) → Bool
  | [] => true
  | x :: l => (c.testBit x.1 || (match k with | none => true | some k => x.2.all fun t => !Nat.beq t k)) && readSame c k l

def rowOf : PV → Option Nat
  | .ptr k _ => some k
  | _ => none

/-- a value that is its own like -/
def PV.okd : PV → Bool
  | .val v => (match v with | .bool _ => true | .int _ _ => true | .string _ => true | .pointer _ => true | .slice _ _ _ => true | .nilFunc => true | .nilIface => true | .map _ => true | _ => false)
  | .list _ _ _ => true
  | .ptr _ _ => true
  | .eptr _ _ => true
  | .sl _ _ _ _ => true
  | _ => false
def PV.okd2 : PV → Bool
  | .agg l => l.all PV.okd
  | p => p.okd

theorem okd_veq {e : Env} {tk : List Nat} {H : AH} {b : Bool} {p : PV} {v : Value} (h : RV e tk H b p v) (hp : p.okd = true) (n : Nat) : veq n v v = true := by
  cases p with
  | val u =>
    rw [h.bool_inv]
    cases u <;> first | (cases hp; done) | simp [veq]
  | list sz l t => obtain ⟨a, c, rfl⟩ := len_slice h; simp [veq]
  | ptr k off => cases h; simp [veq]
  | eptr c o => cases h; simp [veq]
  | sl k o n c => cases h; simp [veq]
  | _ => cases hp

theorem okd2_veq {e : Env} {tk : List Nat} {H : AH} {b : Bool} {p : PV} {v : Value} (h : RV e tk H b p v) (hp : p.okd2 = true) : veq 3 v v = true := by
  cases p with
  | agg l =>
    cases h with
    | @agg _ _ vs hl hh =>
      have key : (vs.zip vs).all (fun (x, y) => veq 2 x y) = true := by
        rw [List.all_eq_true]
        rintro ⟨x, y⟩ hx
        obtain ⟨i, hi, hxy⟩ := List.mem_iff_getElem.1 hx
        simp only [List.getElem_zip, Prod.mk.injEq] at hxy
        obtain ⟨rfl, rfl⟩ := hxy
        have hi' : i < vs.length := by simpa using hi
        obtain ⟨q, hq⟩ := get_of_lt (l := l) (i := i) (by rw [hl]; exact hi')
        exact okd_veq (hh i q _ hq (List.getElem?_eq_getElem hi')) (List.all_eq_true.1 hp q (List.mem_of_getElem? hq)) 2
      simp only [veq, beq_self_eq_true, Bool.true_and]
      exact key
  | _ => exact okd_veq h hp 3

def pDraw (P : Program) (os : List Oper) (cl : List Nat) : List Nat → PS → List (Nat × List Nat) → Option PS
  | [], s, _ => some s
  | j :: js, s, chs => match os[j]? with
    | none => none
    | some o => match o.guard with
      | some _ => none
      | none => match o.op with
        | .store t x y => match s.ev x with
          | some (.ptr k off) => match pOp P s (.store t x y) with
            | some (.mem p fr tk) => pick (s.can o.dst) (pDraw P os cl js ((s.mem fr tk).upd o.dst p) ((j, [k]) :: touch k chs)) none
            | _ => none
          | _ => none
        | .load t x => match s.ev x with
          | some q => match pLoad P s.fr t q with
            | some p => pick (p.okd2) (pick (readSame (cl.getD j 0) (rowOf q) chs) (pick (s.can o.dst) (pDraw P os cl js (s.upd o.dst p) chs) none) none) none
            | none => none
          | none => none
        | op => pick (pureOp P op) (match pPure P s op with
          | some p => pick (s.can o.dst) (pDraw P os cl js (s.upd o.dst p) chs) none
          | none => none) none

/-- the memories ahead of the chief operations: where they differ from the one that there is -/
def Back (e : Env) (H : AH) (chs : List (Nat × List Nat)) (Ms : List (Nat × AH)) : Prop :=
  chs.length = Ms.length ∧ ∀ (i : Nat) (x : Nat × List Nat) (y : Nat × AH), chs[i]? = some x → Ms[i]? = some y → x.1 = y.1 ∧ ∀ id, (∀ k, k ∈ x.2 → e.rows[k]? ≠ some id) → y.2.get id = H.get id

theorem readSame_at {c : Nat} {k : Option Nat} : ∀ {chs : List (Nat × List Nat)}, readSame c k chs = true → ∀ x ∈ chs, c.testBit x.1 = true ∨ ∀ k0, k = some k0 → k0 ∉ x.2
  | [], _, x, hx => by simp at hx
  | y :: l, h, x, hx => by
    simp only [readSame, Bool.and_eq_true, Bool.or_eq_true] at h
    rcases List.mem_cons.1 hx with rfl | hx
    · rcases h.1 with h1 | h1
      · exact .inl h1
      · right
        intro k0 hk hm
        subst hk
        simp only [List.all_eq_true, Bool.not_eq_true'] at h1
        have := h1 k0 hm
        rw [Nat.beq_refl] at this; cases this
    · exact readSame_at h.2 x hx

theorem Back.at {e : Env} {H : AH} {chs : List (Nat × List Nat)} {Ms : List (Nat × AH)} (h : Back e H chs Ms) {y : Nat × AH} (hy : y ∈ Ms) : ∃ x ∈ chs, x.1 = y.1 ∧ ∀ id, (∀ k, k ∈ x.2 → e.rows[k]? ≠ some id) → y.2.get id = H.get id := by
  obtain ⟨i, hi, rfl⟩ := List.mem_iff_getElem.1 hy
  obtain ⟨x, hx⟩ := get_of_lt (l := chs) (i := i) (by rw [h.1]; exact hi)
  obtain ⟨h1, h2⟩ := h.2 i x _ hx (List.getElem?_eq_getElem hi)
  exact ⟨x, List.mem_of_getElem? hx, h1, h2⟩

theorem do_free {rec : Rec} {os : List Oper} {a : AAct} {H : AH} {o : Oper} (hg : o.guard = none) : aDo P rec os a H o = aOp P rec a H o := by
  unfold aDo
  rw [wanted_free hg]
  rfl

theorem aLoad_same {H M : AH} {t : TypeId} {id off : Nat} (h : M.get id = H.get id) : aLoad P M t id off = aLoad P H t id off := by
  unfold aLoad AH.row
  rw [h]

theorem RelA.put {C : Ctx} {e : Env} {s : PS} {a : AAct} {H : AH} (hR : RelA C e s a H) {d : Option Tmp} {v : Value} (h : s.can d = true) : a.put d v = .ok (a.upd d v) := AAct.put_can (hR.can h)

theorem pDraw_ok {os : List Oper} {cl : List Nat} : ∀ (js : List Nat) (s : PS) (chs : List (Nat × List Nat)) (s' : PS), pDraw P os cl js s chs = some s' → ∀ (C : Ctx) (e : Env) (a : AAct) (H : AH) (Ms : List (Nat × AH)), RelA C e s a H → Back e H chs Ms →
    ∃ a' H', okDraw P (oRun P O 0) os cl js a H Ms a' H' ∧ RelA C e s' a' H'
  | [], s, chs, s', h, C, e, a, H, Ms, hR, hB => by cases h; exact ⟨a, H, ⟨rfl, rfl⟩, hR⟩
  | j :: js, s, chs, s', h, C, e, a, H, Ms, hR, hB => by
    simp only [pDraw] at h
    cases ho : os[j]? with
    | none => rw [ho] at h; cases h
    | some o =>
      rw [ho] at h
      simp only at h
      cases hg : o.guard with
      | some g => rw [hg] at h; cases h
      | none =>
        rw [hg] at h
        simp only at h
        have pure_case : (pick (pureOp P o.op) (match pPure P s o.op with
            | some p => pick (s.can o.dst) (pDraw P os cl js (s.upd o.dst p) chs) none
            | none => none) none) = some s' → ∃ a' H', okDraw P (oRun P O 0) os cl (j :: js) a H Ms a' H' ∧ RelA C e s' a' H' := fun h => by
          obtain ⟨hpu, h⟩ := pick_some h
          cases hp : pPure P s o.op with
          | none => rw [hp] at h; cases h
          | some p =>
            rw [hp] at h
            obtain ⟨hc, h⟩ := pick_some h
            obtain ⟨_, hcore⟩ := pPure_core (O := O) hp
            obtain ⟨v, k1, k2⟩ := hcore C e a H hR
            obtain ⟨a', H', m1, m2⟩ := pDraw_ok js (s.upd o.dst p) chs s' h C e (a.upd o.dst v) H Ms (hR.upd hc hR.refl k2) hB
            refine ⟨a', H', ⟨o, v, H, a.upd o.dst v, ho, by rw [do_free hg]; exact k1, hR.put hc, fun hr => ?_, by rw [if_pos hpu]; exact m1⟩, m2⟩
            exfalso
            cases hop : o.op <;> rw [hop] at hpu hr <;> first | (cases hr; done) | (cases hpu; done)
        obtain ⟨d, op, ty, ps, af, gu⟩ := o
        simp only at hg h pure_case
        subst hg
        cases op with
        | store t x y =>
          simp only at h
          cases hx : s.ev x with
          | none => rw [hx] at h; cases h
          | some q =>
            rw [hx] at h
            cases q with
            | ptr k off =>
              simp only at h
              cases hp : pOp P s (.store t x y) with
              | none => rw [hp] at h; cases h
              | some r =>
                rw [hp] at h
                cases r with
                | pure p => cases h
                | mem p fr tk =>
                  obtain ⟨hc, h⟩ := pick_some h
                  simp only [pOp, hx] at hp
                  cases hy : s.ev y with
                  | none => rw [hy] at hp; cases hp
                  | some pv =>
                    cases hn : tSize P t with
                    | error n => rw [hy, hn] at hp; cases hp
                    | ok n =>
                      rw [hy, hn] at hp
                      simp only at hp
                      cases hk : s.fr[k]? with
                      | none => rw [hk] at hp; cases hp
                      | some R =>
                        rw [hk] at hp
                        obtain ⟨g1, hp⟩ := pick_some hp
                        obtain ⟨g2, hp⟩ := pick_some hp
                        obtain ⟨g3, hp⟩ := pick_some hp
                        cases hp
                        obtain ⟨id, r', k1, k2, k3⟩ := store_core (O := O) (d := d) (ty := ty) (pst := ps) (af := af) (gu := none) hx hy hn g1 hk g2 g3 hR
                        obtain ⟨a', H', m1, m2⟩ := pDraw_ok js _ _ s' h C e (a.upd d undef) (H.set id r') ((j, H) :: Ms) (hR.upd hc k3 rv_undef) ⟨by simp [touch, hB.1], fun i u w hu hw => by
                          cases i with
                          | zero =>
                            simp at hu hw; subst hu; subst hw
                            refine ⟨rfl, fun id' hid => ?_⟩
                            rw [AH.get_set, if_neg (fun e1 => hid k (by simp) (by rw [e1]; exact k1))]
                          | succ i =>
                            simp only [List.getElem?_cons_succ, touch, List.getElem?_map] at hu hw
                            cases hu0 : chs[i]? with
                            | none => rw [hu0] at hu; cases hu
                            | some u0 =>
                              rw [hu0] at hu
                              simp at hu
                              subst hu
                              obtain ⟨e1, e2⟩ := hB.2 i u0 w hu0 hw
                              refine ⟨e1, fun id' hid => ?_⟩
                              rw [e2 id' (fun k' hk' => hid k' (by simp [hk'])), AH.get_set, if_neg (fun e3 => hid k (by simp) (by rw [e3]; exact k1))]⟩
                        exact ⟨a', H', ⟨_, undef, H.set id r', a.upd d undef, ho, by rw [do_free rfl]; exact k2, hR.put hc, fun hr => (by cases hr), m1⟩, m2⟩
            | _ => cases h
        | load t x =>
          simp only at h
          cases hx : s.ev x with
          | none => rw [hx] at h; cases h
          | some q =>
            rw [hx] at h
            simp only at h
            cases hl : pLoad P s.fr t q with
            | none => rw [hl] at h; cases h
            | some p =>
              rw [hl] at h
              obtain ⟨g1, h⟩ := pick_some h
              obtain ⟨g2, h⟩ := pick_some h
              obtain ⟨hc, h⟩ := pick_some h
              obtain ⟨u, k1, k2⟩ := hR.ev hx
              obtain ⟨id, off, v, k3, k4, k5⟩ := hR.load k2 hl
              obtain ⟨a', H', m1, m2⟩ := pDraw_ok js (s.upd d p) chs s' h C e (a.upd d v) H Ms (hR.upd hc hR.refl k5) hB
              have hop : ∀ M : AH, aOp P (oRun P O 0) a M ⟨d, .load t x, ty, ps, af, none⟩ = (aLoad P M t id off >>= fun v => .ok (v, M)) := fun M => by
                simp only [aOp, AAct.ev_eval k1, bind, Except.bind, k3]
              refine ⟨a', H', ⟨_, v, H, a.upd d v, ho, by rw [do_free rfl, hop, k4]; rfl, hR.put hc, fun _ y hy => ?_, m1⟩, m2⟩
              obtain ⟨x0, hx0, e1, e2⟩ := hB.at hy
              rcases readSame_at g2 x0 hx0 with h1 | h1
              · left; rw [← e1]; exact h1
              · right
                refine ⟨v, ?_, okd2_veq k5 g1⟩
                have hsame : y.2.get id = H.get id := by
                  refine e2 id fun k hk hrow => ?_
                  cases q with
                  | ptr kq offq =>
                    cases k2 with
                    | @ptr _ _ idq hkq =>
                      simp only [addrOf, Except.ok.injEq, Prod.mk.injEq] at k3
                      obtain ⟨rfl, _⟩ := k3
                      have := hR.h.inv.rnd k kq idq hrow hkq
                      subst this
                      exact h1 k rfl hk
                  | eptr c o =>
                    cases k2 with
                    | eptr w hr hm hs hv hh =>
                      simp only [addrOf, Except.ok.injEq, Prod.mk.injEq] at k3
                      obtain ⟨rfl, _⟩ := k3
                      exact hs.row (List.mem_of_getElem? hrow)
                  | _ => cases hl
                rw [do_free rfl, hop, aLoad_same hsame, k4]; rfl
        | _ => exact pure_case h


end
end Go.Eng
