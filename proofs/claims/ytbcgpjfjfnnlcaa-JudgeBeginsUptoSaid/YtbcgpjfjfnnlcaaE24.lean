/-
  Where paths meet: what is known of an activation's temporaries, and their places as a term again.
-/
import Derived.Test.YtbcgpjfjfnnlcaaE22
set_option linter.unusedVariables false
namespace Go.Eng
noncomputable section

def Good : Nat → T Value → Prop
  | 0, _ => True
  | k + 1, t => ∃ v l r, t = T.node v l r ∧ Good k l ∧ Good k r

theorem Good.full : ∀ k, Good k (T.full k)
  | 0 => trivial
  | k + 1 => ⟨none, T.full k, T.full k, rfl, Good.full k, Good.full k⟩

theorem Good.put {n : Nat} : ∀ {k : Nat} {t : T Value}, Good k t → ∀ (d : Nat) (v : Value), Good k (T.put n t d v)
  | 0, _, _, _, _ => trivial
  | k + 1, _, ⟨x, l, r, rfl, hl, hr⟩, d, v => by
    rw [T.put_node]
    split
    · exact ⟨_, _, _, rfl, hl, hr⟩
    · split
      · exact ⟨_, _, _, rfl, hl.put _ _, hr⟩
      · exact ⟨_, _, _, rfl, hl, hr.put _ _⟩

theorem Good.start {n : Nat} {vs : List Value} : Good 10 (startAct n vs).tm := by
  unfold startAct
  have key : ∀ (l : List (Value × Nat)) (t : T Value), Good 10 t → Good 10 (l.foldl (fun t (p : Value × Nat) => T.put AH.top t p.2 p.1) t) := by
    intro l
    induction l with
    | nil => intro t h; exact h
    | cons p l ih => intro t h; exact ih _ (h.put _ _)
  exact key _ _ (Good.full 10)

end
end Go.Eng
/-
  A region whose order is open, in the calculus: where its order is not seen, it is gone through in one order.
-/
set_option linter.unusedSimpArgs false
namespace Go.Eng
noncomputable section
variable {P : Program} {O : Orc}

def plainGo (P : Program) (os : List Oper) (cl : List Nat) : List Nat → Nat → Nat → Option Nat → Bool
  | [], done, _, _ => done == 2 ^ os.length - 1
  | j :: js, done, last, ch =>
    match os[j]? with
    | none => false
    | some o => !done.testBit j && (bitsIn (cl.getD j 0) done && (!floatOp o && ((deferOf o.op).isNone &&
      (if pureOp P o.op then plainGo P os cl js (done ||| 2 ^ j) last ch
       else if readOp o.op then (match ch with | none => true | some c => (cl.getD j 0).testBit c) && plainGo P os cl js (done ||| 2 ^ j) last ch
       else bitsIn (done ^^^ last) (cl.getD j 0) && ((match ch with | none => true | some c => (cl.getD j 0).testBit c) && plainGo P os cl js (done ||| 2 ^ j) (done ||| 2 ^ j) (some j))))))

def pickO (os : List Oper) (js : List Nat) : List Oper := js.filterMap fun j => os[j]?

/-- may the region be gone through in this order? -/
def plainDraw (P : Program) (os : List Oper) (order : List Nat) : Bool :=
  (P.follows .mixedOrders && (tmpsRight os (clos os) && (os.all (fun o => !floatOp o) && (drawOrder P os (clos os) == order && plainGo P os (clos os) order 0 0 none))))

theorem reserve_none : ∀ (os : List Oper) (i next : Nat), os.all (fun o => !floatOp o) = true → reserve os i next = ([], next)
  | [], _, _, _ => rfl
  | o :: os, i, next, h => by
    simp only [List.all_cons, Bool.and_eq_true, Bool.not_eq_true'] at h
    have ih := reserve_none os (i + 1) next h.2
    simp only [reserve, h.1]
    exact ih

def chOf : List (Nat × PM) → Option Nat
  | [] => none
  | (c, _) :: _ => some c

theorem draw_steps {rec : Rec} {rnd : Option Nat} {os : List Oper} {cl : List Nat} : ∀ (js : List Nat) (s : DS) (a' : AAct) (H' : AH), s.ps = [] → plainGo P os cl js s.done s.last (chOf s.chs) = true →
    aOps P rec rnd os (pickO os js) s.a s.m.H = .ok (a', H') → ∃ s', js.foldlM (dStep P rec os cl) s = .ok s' ∧ s'.a = a' ∧ s'.m.H = H' ∧ s'.done = 2 ^ os.length - 1 ∧ s'.ps = []
  | [], s, a', H', hps, hp, h => by
    simp only [plainGo, beq_iff_eq] at hp
    simp only [pickO, List.filterMap_nil, aOps] at h
    cases h
    exact ⟨s, rfl, rfl, rfl, hp, hps⟩
  | j :: js, s, a', H', hps, hp, h => by
    simp only [plainGo] at hp
    cases ho : os[j]? with
    | none => rw [ho] at hp; cases hp
    | some o =>
      rw [ho] at hp
      simp only [Bool.and_eq_true, Bool.not_eq_true', Option.isNone_iff_eq_none] at hp
      obtain ⟨h1, h2, h3, h4, h5⟩ := hp
      have hpick : pickO os (j :: js) = o :: pickO os js := by simp [pickO, ho]
      rw [hpick] at h
      -- the operation's value, its memory, the rest
      obtain ⟨v, H1, a1, g1, g2, g3⟩ : ∃ v H1 a1, aDo P rec os s.a s.m.H o = .ok (v, H1) ∧ s.a.put o.dst v = .ok a1 ∧ aOps P rec rnd os (pickO os js) a1 H1 = .ok (a', H') := by
        simp only [aOps] at h
        obtain ⟨b, k1, k2⟩ := bok h
        cases b with
        | true =>
          simp only [if_true, h4] at k2
          obtain ⟨⟨v, H1⟩, k3, k4⟩ := bok k2
          obtain ⟨a1, k5, k6⟩ := bok k4
          exact ⟨v, H1, a1, by unfold aDo; rw [k1]; exact k3, k5, k6⟩
        | false =>
          simp only [Bool.false_eq_true, if_false] at k2
          obtain ⟨a1, k5, k6⟩ := bok k2
          exact ⟨undef, s.m.H, a1, by unfold aDo; rw [k1]; rfl, k5, k6⟩
      have hstep : ∀ s1, dStep P rec os cl s j = .ok s1 → s1.a = a1 → s1.m.H = H1 → plainGo P os cl js s1.done s1.last (chOf s1.chs) = true → s1.ps = [] → ∃ s', (j :: js).foldlM (dStep P rec os cl) s = .ok s' ∧ s'.a = a' ∧ s'.m.H = H' ∧ s'.done = 2 ^ os.length - 1 ∧ s'.ps = [] := by
        intro s1 e1 e2 e3 e4 e5
        subst e2; subst e3
        obtain ⟨s', q1, q2⟩ := draw_steps js s1 a' H' e5 e4 g3
        refine ⟨s', ?_, q2⟩
        rw [List.foldlM_cons, e1]
        exact q1
      have hins : ∀ c, s.m.ins c [] = s.m.H := fun c => rfl
      have hfl : floatsOf [] = 0 := rfl
      by_cases hpu : pureOp P o.op = true
      · rw [if_pos hpu] at h5
        have e : H1 = s.m.H := (aDo_pure hpu g1).1
        refine hstep { s with done := s.done ||| 2 ^ j, a := a1 } ?_ rfl e.symm h5 hps
        unfold dStep
        simp only [ho, h1, h2, h3, Bool.false_eq_true, if_false, Bool.not_true, hps, hins, g1]
        simp only [bind, Except.bind, g2, hpu, if_true]
      · rw [if_neg hpu] at h5
        by_cases hre : readOp o.op = true
        · rw [if_pos hre] at h5
          simp only [Bool.and_eq_true] at h5
          have e : H1 = s.m.H := aDo_read hre g1
          have hsb : sameBack P rec os [] s.a o v (cl.getD j 0) s.chs = true := by
            cases hch : s.chs with
            | nil => rfl
            | cons x l =>
              obtain ⟨c, m⟩ := x
              have := h5.1
              rw [hch] at this
              simp only [chOf] at this
              simp only [sameBack, this, if_true]
          refine hstep { s with done := s.done ||| 2 ^ j, a := a1 } ?_ rfl e.symm h5.2 hps
          unfold dStep
          simp only [ho, h1, h2, h3, Bool.false_eq_true, if_false, Bool.not_true, hps, hins, g1]
          simp only [bind, Except.bind, g2, hpu, hre, if_true, hsb, if_false]
          rfl
        · rw [if_neg hre] at h5
          simp only [Bool.and_eq_true] at h5
          have hb : bitsIn (s.done ^^^ s.last) (cl.getD j 0 ||| floatsOf []) = true := by rw [hfl, Nat.or_zero]; exact h5.1
          have hc : (match s.chs with | [] => true | (c0, _) :: _ => (cl.getD j 0).testBit c0) = true := by
            have := h5.2.1
            cases hch : s.chs with
            | nil => rfl
            | cons x l => rw [hch] at this; exact this
          refine hstep { done := s.done ||| 2 ^ j, last := s.done ||| 2 ^ j, chs := (j, s.m) :: s.chs, a := a1, m := ⟨H1, s.m.got ||| cl.getD j 0⟩, ps := s.ps } ?_ rfl rfl h5.2.2 hps
          unfold dStep
          simp only [ho, h1, h2, h3, Bool.false_eq_true, if_false, Bool.not_true, hps, hins, g1]
          simp only [bind, Except.bind, g2, hpu, hre, hb, if_false, Bool.not_true, Bool.false_eq_true]
          refine if_neg (fun hx => ?_)
          rw [Bool.not_eq_true'] at hx
          exact Bool.noConfusion (hc.symm.trans hx)

theorem draw_plain {rec : Rec} {rnd : Option Nat} {os : List Oper} {order : List Nat} {a a' : AAct} {H H' : AH} (hp : plainDraw P os order = true) (h : aOps P rec rnd os (pickO os order) a H = .ok (a', H')) : aDraw P rec os a H = .ok (a', H') := by
  unfold plainDraw at hp
  simp only [Bool.and_eq_true, beq_iff_eq] at hp
  obtain ⟨_, h2, h3, h4, h5⟩ := hp
  unfold aDraw
  simp only [h2, if_true, reserve_none os 0 H.next h3, h4]
  obtain ⟨s', q1, q2, q3, q4, q5⟩ := draw_steps (rnd := rnd) order { done := 0, last := 0, chs := [], a := a, m := ⟨H, 0⟩, ps := [] } a' H' rfl h5 h
  show (order.foldlM (dStep P rec os (clos os)) { done := 0, last := 0, chs := [], a := a, m := ⟨H, 0⟩, ps := [] } >>= fun s => if s.done = 2 ^ os.length - 1 then .ok (s.a, s.m.ins s.done s.ps) else .error 121) = _
  rw [q1]
  show (if s'.done = 2 ^ os.length - 1 then Except.ok (s'.a, s'.m.ins s'.done s'.ps) else .error 121) = _
  rw [if_pos q4, ← q2, ← q3, q5]
  rfl

theorem WC.drawn {rnd : Option Nat} {i : Nat} {ops : Array Oper} {z : Code} {a : AAct} {H : AH} {Q : AX → AAct → AH → Prop} {order : List Nat} (hp : plainDraw P ops.toList order = true)
    (h : WO P O rnd ops.toList (pickO ops.toList order) a H (fun a1 H1 => WC P O rnd z a1 H1 Q)) : WC P O rnd (.seq (.region i ops true) z) a H Q := by
  obtain ⟨n, a1, H1, h1, h2⟩ := h
  refine WC.seq ⟨n + 1, .normal, a1, H1, ?_, h2⟩
  have hf : P.follows .mixedOrders = true := by
    unfold plainDraw at hp
    simp only [Bool.and_eq_true] at hp
    exact hp.1
  simp only [oRun, aStep, hf, Bool.not_true, Bool.false_eq_true, if_false, draw_plain hp h1]
  rfl

end
end Go.Eng
/-
  The calculus' rule for a store into a row of one's own.
-/
namespace Go.Eng
noncomputable section
variable {P : Program} {O : Orc}

/-- a row with known values laid over some of its cells -/
def Row.over (r : Row) (off : Nat) (vs : List Value) : Row := { r with cells := spliceL r.cells off (vs.map some) }

theorem write_solo {H : AH} {id off : Nat} {r : Row} {vs : List Value} (hr : H.get id = some (.row r)) (hro : r.ro = false) (hs : r.solo = true) (hp : vs.all plainCell = true) (hl : off + vs.length ≤ r.cells.length) : H.write id off vs = .ok (H.set id (.row (r.over off vs))) := by
  unfold AH.write
  have hrow : H.row id = .ok r := by unfold AH.row; rw [hr]
  simp only [hrow, bind, Except.bind, hro, hp, hs, Bool.false_eq_true, if_false, Bool.not_true, if_true]
  rw [if_pos hl]
  have e : ({ cells := spliceL r.cells off (vs.map some), ty := r.ty, fam := r.fam, disp := r.disp, esz := r.esz, ro := false, solo := true } : Row) = r.over off vs := by
    unfold Row.over; rw [← hro, ← hs]
  rw [e]

section ops
variable {rnd : Option Nat} {all os : List Oper} {a : AAct} {H : AH} {Q : AAct → AH → Prop} {d : Option Tmp} {ty : TypeId} {ps : String} {af : Array Edge} {gu : Option (Nat × Bool)}

end ops

end
end Go.Eng
