/-
  A region whose order is open: whatever order is drawn, what the abstract machine tells holds.
-/
import Derived.Test.YtbcgpjfjfnnlcaaE12
set_option linter.unusedSimpArgs false
set_option linter.unusedVariables false
namespace Go.Eng
noncomputable section
variable {P : Program}

def light (P : Program) (o : Oper) : Bool := pureOp P o.op || readOp o.op || floatOp o

/-- an answer that leans on no memory -/
def Free (f : AH → R (Value × AH)) : Prop := ∃ x : R Value, ∀ H, f H = x >>= fun v => .ok (v, H)

theorem Free.err {n : Nat} : Free (fun _ => .error n) := ⟨.error n, fun _ => rfl⟩
theorem Free.val {v : Value} : Free (fun H => .ok (v, H)) := ⟨.ok v, fun _ => rfl⟩
theorem Free.bind {α : Type} {x : R α} {f : α → AH → R (Value × AH)} (h : ∀ a, Free (f a)) : Free (fun H => x >>= fun a => f a H) := by
  cases x with
  | error e => exact ⟨.error e, fun _ => rfl⟩
  | ok a => obtain ⟨y, hy⟩ := h a; exact ⟨y, fun H => hy H⟩

theorem aOp_free {rec : Rec} {a : AAct} {o : Oper} (hp : pureOp P o.op = true) : Free (fun H => aOp P rec a H o) := by
  obtain ⟨d, op, ty, ps, af, gu⟩ := o
  cases op <;> simp only [pureOp] at hp <;> first | (cases hp; done) | skip
  case move x => simp only [aOp]; exact Free.bind fun u => Free.val
  case assign x => simp only [aOp]; exact Free.bind fun u => Free.val
  case pick c x y =>
    simp only [aOp]
    refine Free.bind fun u => ?_
    split
    · exact Free.bind fun u => Free.val
    · exact Free.err
  case nilCheck x =>
    simp only [aOp]
    refine Free.bind fun u => ?_
    split
    · exact Free.val
    · exact Free.val
    · exact Free.val
    · exact Free.err
  case binOp op t x y t2 =>
    simp only [aOp]
    refine Free.bind fun u => Free.bind fun w => ?_
    split
    · have e : ∀ H, aPtr P H op t u w = .error 353 := fun H => by
        unfold aPtr
        cases hU : P.underlying t with
        | none => rfl
        | some d => cases d <;> first | (rw [hU] at hp; cases hp; done) | rfl
      exact ⟨.error 353, fun H => by show (aPtr P H op t u w >>= fun z => Except.ok (z, H)) = _; rw [e]⟩
    · exact Free.bind fun z => Free.val
  case unOp op t x =>
    simp only [aOp]
    refine Free.bind fun u => ?_
    split
    · exact Free.bind fun u => Free.val
    · exact Free.bind fun u => Free.val
    · exact Free.err
  case makeInterface t x =>
    simp only [aOp]
    split
    · exact Free.err
    · exact Free.bind fun u => Free.val
    · exact Free.err
  case makeFunc fn first cap =>
    cases fn <;> simp only [aOp] <;> first | exact Free.err | exact Free.bind fun u => Free.bind fun w => Free.val
  case fieldAddr t x f =>
    simp only [aOp]
    split
    · split
      · refine Free.bind fun u => Free.bind fun p => Free.bind fun n => ?_
        split
        · exact Free.err
        · exact Free.val
      · exact Free.err
    · exact Free.err
  case field t x f =>
    simp only [aOp]
    refine Free.bind fun u => ?_
    split
    · split
      · exact Free.bind fun u => Free.val
      · exact Free.err
    · exact Free.err
  case indexAddr t x i =>
    simp only [aOp]
    refine Free.bind fun u => ?_
    split
    · refine Free.bind fun u => Free.bind fun i => ?_
      split
      · exact Free.bind fun u => Free.val
      · exact Free.err
    · refine Free.bind fun u => Free.bind fun i => ?_
      split
      · exact Free.bind fun u => Free.val
      · exact Free.err
    · exact Free.err
  case index t x i =>
    simp only [aOp]
    refine Free.bind fun u => ?_
    split
    · refine Free.bind fun u => Free.bind fun i => ?_
      split
      · exact Free.val
      · exact Free.err
    · refine Free.bind fun u => Free.bind fun i => ?_
      split
      · exact Free.bind fun u => Free.bind fun w => Free.val
      · exact Free.err
    · exact Free.err
  case extract x i =>
    simp only [aOp]
    refine Free.bind fun u => ?_
    split
    · split
      · exact Free.val
      · exact Free.err
    · exact Free.err
  case build t parts =>
    simp only [aOp]
    refine Free.bind fun u => Free.bind fun zs => ?_
    split
    · refine Free.bind fun pl => ?_
      split
      · exact Free.val
      · exact Free.err
    · refine Free.bind fun pl => ?_
      split
      · exact Free.val
      · exact Free.err
    · exact Free.err
  case convert s t x =>
    simp only [aOp]
    refine Free.bind fun u => ?_
    split at hp
    · rename_i k hk
      unfold aConvert
      split
      · split
        · rename_i h1 h2; rw [hk] at h1; cases h1
        · exact Free.err
      · split
        · rename_i h1 h2; rw [hk] at h1; cases h1
        · rename_i h1 h2; rw [hk] at h1; cases h1
        · exact Free.err
      · split
        · rename_i h1 h2; rw [hk] at h1; cases h1
        · exact Free.bind fun u => Free.val
      · exact Free.bind fun u => Free.val
      · exact Free.err
    · cases hp
  case call c =>
    obtain ⟨cal, args, ats⟩ := c
    cases cal with
    | value f => simp at hp
    | invoke r m => simp at hp
    | builtin b =>
      cases b <;> simp only at hp <;> first | (cases hp; done) | skip
      · simp only [aOp]
        refine Free.bind fun vs => ?_
        rcases vs with _ | ⟨x, _ | ⟨y, l⟩⟩
        · exact Free.err
        · simp only
          split
          · exact Free.bind fun u => Free.val
          · exact Free.err
        · exact Free.err
      · simp only [aOp]
        refine Free.bind fun vs => ?_
        split
        · exact Free.bind fun u => Free.val
        · exact Free.err
      · simp only [aOp]
        refine Free.bind fun vs => ?_
        split
        · exact Free.bind fun u => Free.val
        · exact Free.err

theorem aOp_pure {rec : Rec} {a : AAct} {H H1 : AH} {o : Oper} {v : Value} (hp : pureOp P o.op = true) (h : aOp P rec a H o = .ok (v, H1)) : H1 = H ∧ ∀ H2, aOp P rec a H2 o = .ok (v, H2) := by
  obtain ⟨x, hx⟩ := aOp_free (P := P) (rec := rec) (a := a) hp
  simp only at hx
  rw [hx] at h
  obtain ⟨u, h1, h2⟩ := bok h
  cases h2
  exact ⟨rfl, fun H2 => by rw [hx, h1]; rfl⟩

theorem aOp_read {rec : Rec} {a : AAct} {H H1 : AH} {o : Oper} {v : Value} (hp : readOp o.op = true) (h : aOp P rec a H o = .ok (v, H1)) : H1 = H := by
  obtain ⟨d, op, ty, ps, af, gu⟩ := o
  cases op <;> simp only [readOp] at hp <;> first | (cases hp; done) | skip
  case load t x =>
    simp only [aOp] at h
    obtain ⟨u, h1, h2⟩ := bok h
    obtain ⟨p, h3, h4⟩ := bok h2
    obtain ⟨w, h5, h6⟩ := bok h4
    cases h6
    rfl
  case lookup t x i ok =>
    simp only [aOp] at h
    obtain ⟨u, h1, h2⟩ := bok h
    obtain ⟨p, h3, h4⟩ := bok h2
    obtain ⟨w, h5, h6⟩ := bok h4
    cases h6
    rfl
  case typeAssert x xt t ok =>
    simp only [aOp] at h
    obtain ⟨u, h1, h2⟩ := bok h
    obtain ⟨p, h3, h4⟩ := bok h2
    cases h4
    rfl
  case slice t x lo hi mx =>
    simp only [aOp] at h
    obtain ⟨u, h1, h2⟩ := bok h
    obtain ⟨p, h3, h4⟩ := bok h2
    obtain ⟨w, h5, h6⟩ := bok h4
    obtain ⟨w2, h7, h8⟩ := bok h6
    obtain ⟨w3, h9, h10⟩ := bok h8
    cases h10
    rfl

theorem aDo_pure {rec : Rec} {os : List Oper} {a : AAct} {H H1 : AH} {o : Oper} {v : Value} (hp : pureOp P o.op = true) (h : aDo P rec os a H o = .ok (v, H1)) : H1 = H ∧ ∀ H2, aDo P rec os a H2 o = .ok (v, H2) := by
  unfold aDo at h ⊢
  obtain ⟨b, h1, h2⟩ := bok h
  cases b with
  | true =>
    simp only [if_true] at h2
    obtain ⟨e, h3⟩ := aOp_pure hp h2
    exact ⟨e, fun H2 => by rw [h1]; exact h3 H2⟩
  | false =>
    simp only [Bool.false_eq_true, if_false] at h2
    cases h2
    exact ⟨rfl, fun H2 => by rw [h1]; rfl⟩

theorem aDo_read {rec : Rec} {os : List Oper} {a : AAct} {H H1 : AH} {o : Oper} {v : Value} (hp : readOp o.op = true) (h : aDo P rec os a H o = .ok (v, H1)) : H1 = H := by
  unfold aDo at h
  obtain ⟨b, h1, h2⟩ := bok h
  cases b with
  | true => simp only [if_true] at h2; exact aOp_read hp h2
  | false => simp only [Bool.false_eq_true, if_false] at h2; cases h2; rfl

theorem sameBack_spec {rec : Rec} {os : List Oper} {pn : List Pend} {a : AAct} {o : Oper} {v : Value} {c : Nat} (hr : readOp o.op = true) : ∀ (l : List (Nat × PM)), sameBack P rec os pn a o v c l = true → ∀ (m : Nat) (x : Nat × PM), l[m]? = some x → (∀ (m' : Nat) (y : Nat × PM), m' ≤ m → l[m']? = some y → c.testBit y.1 = false) → aDo P rec os a (x.2.ins c pn) o = .ok (v, x.2.ins c pn)
  | [], _, m, x, hx, _ => by simp at hx
  | (j, H) :: l, h, m, x, hx, hn => by
    have h0 := hn 0 (j, H) (Nat.zero_le _) rfl
    simp only [sameBack, h0, Bool.false_eq_true, if_false, Bool.and_eq_true] at h
    cases m with
    | zero =>
      simp at hx
      subst hx
      have h1 := h.1
      split at h1
      · rename_i u H1 hd
        have e := aDo_read hr hd
        subst e
        rw [hd, veq_eq _ h1]
      · cases h1
    | succ m =>
      exact sameBack_spec hr l h.2 m x (by simpa using hx) (fun m' y hm hy => hn (m' + 1) y (by omega) (by simpa using hy))

structure StepFacts (P : Program) (rec : Rec) (os : List Oper) (cl : List Nat) (pn : List Pend) (s : DS) (j : Nat) (s' : DS) (o : Oper) (v : Value) (H1 : AH) : Prop where
  op : os[j]? = some o
  fresh : s.done.testBit j = false
  below : ∀ i, (cl.getD j 0).testBit i = true → s.done.testBit i = true
  did : floatOp o = false → aDo P rec os s.a (s.m.ins (cl.getD j 0) pn) o = .ok (v, H1)
  flo : floatOp o = true → ∃ p, pendOf pn j = some p ∧ v = p.val ∧ floatRowOf P s.a o.op p.id = .ok p.row
  put : s.a.put o.dst v = .ok s'.a
  done : s'.done = s.done ||| 2 ^ j
  kind : (light P o = true ∧ s'.m = s.m ∧ s'.chs = s.chs ∧ s'.last = s.last ∧ (floatOp o = true ∨ pureOp P o.op = true ∨ (readOp o.op = true ∧ sameBack P rec os pn s.a o v (cl.getD j 0) s.chs = true))) ∨
    (light P o = false ∧ s'.m = ⟨H1, s.m.got ||| cl.getD j 0⟩ ∧ s'.chs = (j, s.m) :: s.chs ∧ s'.last = s'.done ∧ (∀ i, (s.done ^^^ s.last).testBit i = true → (cl.getD j 0).testBit i = true ∨ (floatsOf pn).testBit i = true) ∧
      (∀ c0 l, s.chs = c0 :: l → (cl.getD j 0).testBit c0.1 = true))

/-- two lists of pending allocations that differ in the rows of operations that are not done, if at all -/
def Agree (d : Nat) : List Pend → List Pend → Prop
  | [], [] => True
  | p :: l, q :: m => (p.op = q.op ∧ p.id = q.id ∧ p.val = q.val ∧ (d.testBit p.op = true → p.row = q.row)) ∧ Agree d l m
  | _, _ => False

theorem Agree.refl (d : Nat) : ∀ ps, Agree d ps ps
  | [] => trivial
  | p :: l => ⟨⟨rfl, rfl, rfl, fun _ => rfl⟩, Agree.refl d l⟩
theorem Agree.less {d d' : Nat} (h : ∀ i, d'.testBit i = true → d.testBit i = true) : ∀ {ps pn : List Pend}, Agree d ps pn → Agree d' ps pn
  | [], [], _ => trivial
  | p :: l, q :: m, ⟨⟨a, b, c, e⟩, hr⟩ => ⟨⟨a, b, c, fun hd => e (h _ hd)⟩, hr.less h⟩
theorem Agree.ins {d c g : Nat} (h : ∀ i, c.testBit i = true → d.testBit i = true) : ∀ {ps pn : List Pend} {M : AH}, Agree d ps pn → Eng.ins c g ps M = Eng.ins c g pn M
  | [], [], M, _ => rfl
  | p :: l, q :: m, M, ⟨⟨a, b, _, e⟩, hr⟩ => by
    have e1 : (if c.testBit p.op && !g.testBit p.op then M.set p.id (.row p.row) else M) = (if c.testBit q.op && !g.testBit q.op then M.set q.id (.row q.row) else M) := by
      rw [← a, ← b]
      split
      · rename_i hc
        simp only [Bool.and_eq_true] at hc
        rw [e (h _ hc.1)]
      · rfl
    simp only [Eng.ins, e1]
    exact Agree.ins h hr
theorem Agree.insM {d c : Nat} (h : ∀ i, c.testBit i = true → d.testBit i = true) {ps pn : List Pend} {m : PM} (ha : Agree d ps pn) : m.ins c ps = m.ins c pn := Agree.ins h ha
theorem Agree.floats {d : Nat} : ∀ {ps pn : List Pend}, Agree d ps pn → floatsOf ps = floatsOf pn := by
  have go : ∀ (ps pn : List Pend) (m : Nat), Agree d ps pn → ps.foldl (fun m p => m ||| 2 ^ p.op) m = pn.foldl (fun m p => m ||| 2 ^ p.op) m := by
    intro ps
    induction ps with
    | nil => intro pn m h; cases pn with
      | nil => rfl
      | cons q l => exact h.elim
    | cons p l ih => intro pn m h; cases pn with
      | nil => exact h.elim
      | cons q l2 =>
        simp only [List.foldl_cons, h.1.1]
        exact ih l2 _ h.2
  intro ps pn h
  exact go _ _ 0 h
theorem Agree.pend {d j : Nat} : ∀ {ps pn : List Pend} {p : Pend}, Agree d ps pn → pendOf ps j = some p → ∃ q, pendOf pn j = some q ∧ p.id = q.id ∧ p.val = q.val ∧ (d.testBit j = true → p.row = q.row)
  | [], [], p, _, h => by simp [pendOf] at h
  | x :: l, y :: m, p, ⟨⟨a, b, c, e⟩, hr⟩, h => by
    unfold pendOf at h ⊢
    rw [List.find?_cons] at h ⊢
    rw [← a]
    cases hx : (x.op == j) with
    | true =>
      rw [hx] at h
      cases h
      simp only [beq_iff_eq] at hx
      exact ⟨y, rfl, b, c, fun hd => e (by rw [hx]; exact hd)⟩
    | false =>
      rw [hx] at h
      exact Agree.pend hr h
theorem Agree.unset {d d' j : Nat} {r : Row} (hj : d.testBit j = false) (h : ∀ i, d.testBit i = true → d'.testBit i = true) : ∀ {ps pn : List Pend}, Agree d' (setRow j r ps) pn → Agree d ps pn
  | [], [], _ => trivial
  | [], q :: m, hh => hh.elim
  | p :: l, [], hh => hh.elim
  | p :: l, q :: m, hh => by
    unfold setRow at hh
    cases hb : (p.op == j) with
    | true =>
      rw [hb] at hh
      obtain ⟨⟨a, b, c, e⟩, hr⟩ := hh
      simp only [beq_iff_eq] at hb
      exact ⟨⟨a, b, c, fun hd => by rw [hb, hj] at hd; cases hd⟩, Agree.unset hj h hr⟩
    | false =>
      rw [hb] at hh
      obtain ⟨⟨a, b, c, e⟩, hr⟩ := hh
      exact ⟨⟨a, b, c, fun hd => e (h _ hd)⟩, Agree.unset hj h hr⟩
theorem pend_set {j : Nat} {r : Row} : ∀ {ps : List Pend} {p : Pend}, pendOf ps j = some p → pendOf (setRow j r ps) j = some ⟨p.op, p.id, p.val, r⟩
  | [], p, h => by simp [pendOf] at h
  | x :: l, p, h => by
    unfold pendOf at h
    rw [List.find?_cons] at h
    unfold setRow pendOf
    cases hx : (x.op == j) with
    | true => rw [hx] at h; cases h; simp only [List.find?_cons, hx]
    | false => rw [hx] at h; simp only [List.find?_cons, hx]; exact pend_set h
theorem Agree.sameBack {rec : Rec} {os : List Oper} {a : AAct} {o : Oper} {v : Value} {d c : Nat} {ps pn : List Pend} (h : ∀ i, c.testBit i = true → d.testBit i = true) (ha : Agree d ps pn) : ∀ (l : List (Nat × PM)), Eng.sameBack P rec os ps a o v c l = Eng.sameBack P rec os pn a o v c l
  | [] => rfl
  | (j, m) :: l => by
    simp only [Eng.sameBack, Agree.insM h ha (m := m), Agree.sameBack h ha l]

theorem bit_orE {d i j : Nat} (h : d.testBit i = true) : (d ||| 2 ^ j).testBit i = true := by rw [Nat.testBit_or, h]; rfl

theorem dStep_agree {rec : Rec} {os : List Oper} {cl : List Nat} {pn : List Pend} {s s' : DS} {j : Nat} (h : dStep P rec os cl s j = .ok s') (ha' : Agree s'.done s'.ps pn) : Agree s.done s.ps pn := by
  unfold dStep at h
  split at h
  · cases h
  · rename_i o ho
    split at h
    · cases h
    rename_i hf
    have hf' : s.done.testBit j = false := by simpa using hf
    split at h
    · cases h
    split at h
    · rename_i q hfl hq
      obtain ⟨r, h1, h2⟩ := bok h
      obtain ⟨a1, h3, h4⟩ := bok h2
      cases h4
      exact ha'.unset hf' (fun i hi => bit_orE hi)
    · cases h
    · obtain ⟨⟨v, H1⟩, h1, h2⟩ := bok h
      obtain ⟨a1, h3, h4⟩ := bok h2
      split at h4
      · cases h4; exact ha'.less (fun i hi => bit_orE hi)
      · split at h4
        · split at h4
          · cases h4; exact ha'.less (fun i hi => bit_orE hi)
          · cases h4
        · split at h4
          · cases h4
          · repeat' split at h4
            all_goals first | (cases h4; done) | (cases h4; exact ha'.less (fun i hi => bit_orE hi))

theorem dStep_ok {rec : Rec} {os : List Oper} {cl : List Nat} {pn : List Pend} {s s' : DS} {j : Nat} (h : dStep P rec os cl s j = .ok s') (ha' : Agree s'.done s'.ps pn) : ∃ o v H1, StepFacts P rec os cl pn s j s' o v H1 := by
  have ha := dStep_agree h ha'
  unfold dStep at h
  split at h
  · cases h
  · rename_i o ho
    split at h
    · cases h
    rename_i hf
    split at h
    · cases h
    rename_i hb
    have hb' := bitsIn_iff.1 (by simpa using hb : bitsIn (cl.getD j 0) s.done = true)
    have hf' : s.done.testBit j = false := by simpa using hf
    split at h
    · rename_i q hfl hq
      obtain ⟨r, hr, h2⟩ := bok h
      obtain ⟨a1, h3, h4⟩ := bok h2
      cases h4
      obtain ⟨q2, e1, e2, e3, e4⟩ := ha'.pend (pend_set (r := r) hq)
      simp only at e2 e3 e4
      have e5 := e4 (by rw [Nat.testBit_or, Nat.testBit_two_pow_self, Bool.or_true])
      exact ⟨o, q.val, s.m.H, ho, hf', hb', (fun h => by rw [hfl] at h; cases h), fun _ => ⟨q2, e1, e3, by rw [← e2, ← e5]; exact hr⟩, h3, rfl, .inl ⟨by simp [light, hfl], rfl, rfl, rfl, .inl hfl⟩⟩
    · cases h
    rename_i hfl
    obtain ⟨⟨v, H1⟩, h1, h2⟩ := bok h
    clear h
    obtain ⟨a1, h3, h4⟩ := bok h2
    clear h2
    rw [ha.insM hb'] at h1
    have hd : floatOp o = false → aDo P rec os s.a (s.m.ins (cl.getD j 0) pn) o = .ok (v, H1) := fun _ => h1
    have hq : floatOp o = true → ∃ p, pendOf pn j = some p ∧ v = p.val ∧ floatRowOf P s.a o.op p.id = .ok p.row := fun h => by rw [hfl] at h; cases h
    split at h4
    · rename_i hp
      cases h4
      exact ⟨o, v, H1, ho, hf', hb', hd, hq, h3, rfl, .inl ⟨by simp [light, hp], rfl, rfl, rfl, .inr (.inl hp)⟩⟩
    · rename_i hnp
      split at h4
      · rename_i hr
        split at h4
        · rename_i hs
          cases h4
          rw [ha.sameBack hb'] at hs
          exact ⟨o, v, H1, ho, hf', hb', hd, hq, h3, rfl, .inl ⟨by simp [light, hr], rfl, rfl, rfl, .inr (.inr ⟨hr, hs⟩)⟩⟩
        · cases h4
      · rename_i hnr
        split at h4
        · cases h4
        rename_i hx
        rw [ha.floats] at hx
        have hx' : ∀ i, (s.done ^^^ s.last).testBit i = true → (cl.getD j 0).testBit i = true ∨ (floatsOf pn).testBit i = true := fun i hi => by
          have := bitsIn_iff.1 (by simpa using hx : bitsIn (s.done ^^^ s.last) (cl.getD j 0 ||| floatsOf pn) = true) i hi
          rw [Nat.testBit_or, Bool.or_eq_true] at this
          exact this
        rcases hs : s.chs with _ | ⟨⟨c0, m0⟩, l0⟩
        · rw [hs] at h4
          simp only [Bool.not_true, Bool.false_eq_true, if_false] at h4
          cases h4
          exact ⟨o, v, H1, ho, hf', hb', hd, hq, h3, rfl, .inr ⟨by simp [light, hnp, hnr, hfl], rfl, by rw [hs], rfl, hx', fun c0 l e => by rw [hs] at e; cases e⟩⟩
        · rw [hs] at h4
          by_cases hc : (cl.getD j 0).testBit c0 = true
          · simp only [hc, Bool.not_true, Bool.false_eq_true, if_false] at h4
            cases h4
            exact ⟨o, v, H1, ho, hf', hb', hd, hq, h3, rfl, .inr ⟨by simp [light, hnp, hnr, hfl], rfl, by rw [hs], rfl, hx', fun c1 l e => by rw [hs] at e; cases e; exact hc⟩⟩
          · simp only [hc, Bool.not_false, if_true] at h4
            cases h4

/-- what is known of a whole region, once the abstract machine has gone through it -/
structure Run (P : Program) (rec : Rec) (os : List Oper) (pn : List Pend) (a : AAct) (H : AH) (L : List Nat) (S : Nat → DS) : Prop where
  start : ∃ ps0, S 0 = { done := 0, last := 0, chs := [], a := a, m := ⟨H, 0⟩, ps := ps0 }
  step : ∀ (p j : Nat), L[p]? = some j → ∃ o v H1, StepFacts P rec os (clos os) pn (S p) j (S (p + 1)) o v H1
  edges : EdgesBack os
  tmps : ∀ (j i : Nat) (o w : Oper) (t : Nat), os[j]? = some o → os[i]? = some w → w.dst = some t → i = j ∨ (o.dst ≠ some t ∧ (t ∉ looks os o ∨ ((clos os).getD j 0).testBit i = true ∨ ((clos os).getD i 0).testBit j = true))
  all : (S L.length).done = 2 ^ os.length - 1

section run
variable {rec : Rec} {os : List Oper} {pn : List Pend} {a : AAct} {H : AH} {L : List Nat} {S : Nat → DS}

theorem Run.lt (_ : Run P rec os pn a H L S) {p j : Nat} (h : L[p]? = some j) : p < L.length := by
  rcases Nat.lt_or_ge p L.length with h' | h'
  · exact h'
  · rw [List.getElem?_eq_none h'] at h; cases h

theorem Run.done_bit (R : Run P rec os pn a H L S) : ∀ (p : Nat), p ≤ L.length → ∀ i, (S p).done.testBit i = true ↔ ∃ q, q < p ∧ L[q]? = some i
  | 0, _, i => by
    obtain ⟨ps0, hst⟩ := R.start
    rw [hst]
    simp
  | p + 1, hp, i => by
    have hj : L[p]? = some L[p] := List.getElem?_eq_getElem (by omega)
    obtain ⟨o, v, H1, F⟩ := R.step p _ hj
    rw [F.done, Nat.testBit_or, Bool.or_eq_true, R.done_bit p (by omega), Nat.testBit_two_pow, decide_eq_true_eq]
    constructor
    · rintro (⟨q, h1, h2⟩ | h)
      · exact ⟨q, by omega, h2⟩
      · exact ⟨p, by omega, by rw [hj, h]⟩
    · rintro ⟨q, h1, h2⟩
      by_cases e : q = p
      · subst e; rw [hj] at h2; cases h2; exact .inr rfl
      · exact .inl ⟨q, by omega, h2⟩

theorem Run.unique (R : Run P rec os pn a H L S) {p q i : Nat} (hp : L[p]? = some i) (hq : L[q]? = some i) : p = q := by
  have key : ∀ p q, p < q → L[p]? = some i → L[q]? = some i → False := fun p q hlt hp hq => by
    obtain ⟨o, v, H1, F⟩ := R.step q i hq
    have := (R.done_bit q (by have := R.lt hq; omega) i).2 ⟨p, hlt, hp⟩
    rw [F.fresh] at this
    cases this
  rcases Nat.lt_trichotomy p q with h | h | h
  · exact (key p q h hp hq).elim
  · exact h
  · exact (key q p h hq hp).elim

theorem Run.place (R : Run P rec os pn a H L S) {i : Nat} (hi : i < os.length) : ∃ p : Nat, L[p]? = some i := by
  have h1 : (S L.length).done.testBit i = true := by
    rw [R.all, Nat.testBit_two_pow_sub_one]
    simpa using hi
  obtain ⟨q, _, hq⟩ := (R.done_bit L.length (Nat.le_refl _) i).1 h1
  exact ⟨q, hq⟩

/-- the temporaries as they stand at a place -/
theorem Run.n_eq (R : Run P rec os pn a H L S) : ∀ (p : Nat), p ≤ L.length → (S p).a.n = a.n ∧ (S p).a.marks = a.marks
  | 0, _ => by obtain ⟨ps0, hst⟩ := R.start; rw [hst]; exact ⟨rfl, rfl⟩
  | p + 1, hp => by
    have hj : L[p]? = some L[p] := List.getElem?_eq_getElem (by omega)
    obtain ⟨o, v, H1, F⟩ := R.step p _ hj
    obtain ⟨e1, e2⟩ := put_n F.put
    obtain ⟨e3, e4⟩ := R.n_eq p (by omega)
    exact ⟨e1.trans e3, e2.trans e4⟩

theorem put_get {a a' : AAct} {d : Option Tmp} {v : Value} (h : a.put d v = .ok a') (t : Nat) : a'.tm.get t = if d = some t then some v else a.tm.get t := by
  rw [AAct.put_eq] at h
  cases d with
  | none => cases h; simp
  | some d =>
    simp only at h
    split at h
    · rename_i hd
      cases h
      rw [show (T.put AH.top a.tm d v).get t = if t = d then some v else a.tm.get t from T.get_put 48 _ _ _ _ (by have h1 : d < a.n := hd.1; have h2 : a.n < 281474976710655 := hd.2; show d + 1 < 2 ^ 48; rw [show (2:Nat) ^ 48 = 281474976710656 from rfl]; exact Nat.lt_of_le_of_lt h1 (Nat.lt_trans h2 (by decide)))]
      by_cases e : t = d
      · subst e; simp
      · rw [if_neg e, if_neg (by intro h; cases h; exact e rfl)]
    · cases h

/-- the value that an operation has come to -/
def valAt (P : Program) (rec : Rec) (os : List Oper) (pn : List Pend) (S : Nat → DS) (p j : Nat) : Value :=
  match os[j]? with
  | some o => if floatOp o then (match pendOf pn j with
    | some q => q.val
    | none => undef) else (match aDo P rec os (S p).a ((S p).m.ins ((clos os).getD j 0) pn) o with
    | .ok (v, _) => v
    | .error _ => undef)
  | none => undef

theorem StepFacts.val {s' : DS} {p j : Nat} {o : Oper} {v : Value} {H1 : AH} (F : StepFacts P rec os (clos os) pn (S p) j s' o v H1) : valAt P rec os pn S p j = v := by
  unfold valAt
  rw [F.op]
  simp only
  cases hf : floatOp o with
  | true =>
    obtain ⟨q, h1, h2, _⟩ := F.flo hf
    simp only [if_true, h1, h2]
  | false => simp only [Bool.false_eq_true, if_false, F.did hf]

theorem Run.tm_some (R : Run P rec os pn a H L S) : ∀ (p : Nat), p ≤ L.length → ∀ (q j : Nat) (o : Oper) (t : Nat), q < p → L[q]? = some j → os[j]? = some o → o.dst = some t → (S p).a.tm.get t = some (valAt P rec os pn S q j)
  | 0, _, q, j, o, t, hq, _, _, _ => by omega
  | p + 1, hp, q, j, o, t, hq, h1, h2, h3 => by
    have hj : L[p]? = some L[p] := List.getElem?_eq_getElem (by omega)
    obtain ⟨o', v, H1, F⟩ := R.step p _ hj
    rw [put_get F.put]
    by_cases e : q = p
    · subst e
      rw [hj] at h1; cases h1
      have : o' = o := by have := F.op; rw [h2] at this; cases this; rfl
      subst this
      rw [if_pos h3, F.val]
    · have hne : o'.dst ≠ some t := fun hd => by
        rcases R.tmps _ _ o' o t F.op h2 h3 with h | ⟨h, _⟩
        · rw [h] at h1
          exact e (R.unique h1 hj)
        · exact h hd
      rw [if_neg hne]
      exact R.tm_some p (by omega) q j o t (by omega) h1 h2 h3

theorem Run.tm_none (R : Run P rec os pn a H L S) : ∀ (p : Nat), p ≤ L.length → ∀ (t : Nat), (∀ (q j : Nat) (o : Oper), q < p → L[q]? = some j → os[j]? = some o → o.dst ≠ some t) → (S p).a.tm.get t = a.tm.get t
  | 0, _, t, _ => by obtain ⟨ps0, hst⟩ := R.start; rw [hst]
  | p + 1, hp, t, h => by
    have hj : L[p]? = some L[p] := List.getElem?_eq_getElem (by omega)
    obtain ⟨o', v, H1, F⟩ := R.step p _ hj
    rw [put_get F.put, if_neg (h p _ o' (by omega) hj F.op)]
    exact R.tm_none p (by omega) t (fun q j o hq => h q j o (by omega))

/-- the memories behind so many chief operations -/
def memAt (L : List Nat) (S : Nat → DS) (k : Nat) : PM :=
  match (S L.length).chs.reverse[k]? with
  | some x => x.2
  | none => (S L.length).m

theorem Run.suffix (R : Run P rec os pn a H L S) : ∀ (d p : Nat), p + d = L.length → ∃ pre : List (Nat × PM), (S L.length).chs = pre ++ (S p).chs ∧ (pre = [] → (S L.length).m = (S p).m) ∧ (∀ pre' x, pre = pre' ++ [x] → x.2 = (S p).m)
  | 0, p, h => by
    have : p = L.length := by omega
    subst this
    exact ⟨[], by simp, fun _ => rfl, fun pre' x e => by simp at e⟩
  | d + 1, p, h => by
    have hj : L[p]? = some L[p] := List.getElem?_eq_getElem (by omega)
    obtain ⟨o, v, H1, F⟩ := R.step p _ hj
    obtain ⟨pre, e1, e2, e3⟩ := R.suffix d (p + 1) (by omega)
    rcases F.kind with ⟨_, k1, k2, _⟩ | ⟨_, k1, k2, _⟩
    · exact ⟨pre, by rw [e1, k2], fun h => by rw [e2 h, k1], fun pre' x h => by rw [e3 pre' x h, k1]⟩
    · refine ⟨pre ++ [(L[p], (S p).m)], by rw [e1, k2]; simp, fun h => by simp at h, fun pre' x h => ?_⟩
      have := List.append_inj_right' h rfl
      simp at this
      rw [← this]

theorem Run.memAt_self (R : Run P rec os pn a H L S) {p : Nat} (hp : p ≤ L.length) : memAt L S (S p).chs.length = (S p).m := by
  obtain ⟨pre, e1, e2, e3⟩ := R.suffix (L.length - p) p (by omega)
  unfold memAt
  rw [e1, List.reverse_append, List.getElem?_append_right (by simp)]
  simp only [List.length_reverse, Nat.sub_self]
  cases hpre : pre.reverse with
  | nil =>
    have : pre = [] := by simpa using hpre
    simp [e2 this]
  | cons x l =>
    have : pre = l.reverse ++ [x] := by
      have := congrArg List.reverse hpre
      simpa using this
    simp [e3 _ x this]

theorem Run.memAt_chs (R : Run P rec os pn a H L S) {p : Nat} (hp : p ≤ L.length) {m : Nat} (hm : m < (S p).chs.length) : ∃ x, (S p).chs[(S p).chs.length - 1 - m]? = some x ∧ memAt L S m = x.2 := by
  obtain ⟨pre, e1, _⟩ := R.suffix (L.length - p) p (by omega)
  have hlt : (S p).chs.length - 1 - m < (S p).chs.length := by omega
  refine ⟨(S p).chs[(S p).chs.length - 1 - m], List.getElem?_eq_getElem hlt, ?_⟩
  unfold memAt
  rw [e1, List.reverse_append, List.getElem?_append_left (by simpa using hm), List.getElem?_reverse hm, List.getElem?_eq_getElem hlt]

theorem Run.chs_chief (R : Run P rec os pn a H L S) : ∀ (p : Nat), p ≤ L.length → ∀ (m : Nat) (x : Nat × PM), (S p).chs[m]? = some x → ∃ q o, q < p ∧ L[q]? = some x.1 ∧ os[x.1]? = some o ∧ light P o = false ∧ (S q).chs.length = (S p).chs.length - 1 - m
  | 0, _, m, x, h => by obtain ⟨ps0, hst⟩ := R.start; rw [hst] at h; simp at h
  | p + 1, hp, m, x, h => by
    have hj : L[p]? = some L[p] := List.getElem?_eq_getElem (by omega)
    obtain ⟨o, v, H1, F⟩ := R.step p _ hj
    rcases F.kind with ⟨_, _, k2, _⟩ | ⟨k0, _, k2, _⟩
    · rw [k2] at h ⊢
      obtain ⟨q, o', h1, h2, h3, h4, h5⟩ := R.chs_chief p (by omega) m x h
      exact ⟨q, o', by omega, h2, h3, h4, h5⟩
    · rw [k2] at h ⊢
      cases m with
      | zero =>
        simp at h
        subst h
        exact ⟨p, o, by omega, hj, F.op, k0, by simp⟩
      | succ m =>
        simp only [List.getElem?_cons_succ] at h
        obtain ⟨q, o', h1, h2, h3, h4, h5⟩ := R.chs_chief p (by omega) m x h
        refine ⟨q, o', by omega, h2, h3, h4, ?_⟩
        simp only [List.length_cons]
        omega

theorem Run.mono (R : Run P rec os pn a H L S) : ∀ (d p : Nat), p + d ≤ L.length → (S p).chs.length ≤ (S (p + d)).chs.length
  | 0, p, _ => Nat.le_refl _
  | d + 1, p, h => by
    have hj : L[p + d]? = some L[p + d] := List.getElem?_eq_getElem (by omega)
    obtain ⟨o, v, H1, F⟩ := R.step (p + d) _ hj
    have := R.mono d p (by omega)
    rw [show p + (d + 1) = p + d + 1 by omega]
    rcases F.kind with ⟨_, _, k2, _⟩ | ⟨_, _, k2, _⟩
    · rw [k2]; exact this
    · rw [k2]; simp only [List.length_cons]; omega

/-- the next chief operation behind a place -/
theorem Run.next_chief (R : Run P rec os pn a H L S) : ∀ (d p : Nat), p + d = L.length → (S p).chs.length < (S L.length).chs.length →
    ∃ q j o, p ≤ q ∧ L[q]? = some j ∧ os[j]? = some o ∧ light P o = false ∧ (S q).chs.length = (S p).chs.length ∧ (S q).last = (S p).last
  | 0, p, h, hlt => by
    have : p = L.length := by omega
    subst this
    omega
  | d + 1, p, h, hlt => by
    have hj : L[p]? = some L[p] := List.getElem?_eq_getElem (by omega)
    obtain ⟨o, v, H1, F⟩ := R.step p _ hj
    rcases F.kind with ⟨_, _, k2, k3, _⟩ | ⟨k0, _⟩
    · obtain ⟨q, j, o', h1, h2, h3, h4, h5, h6⟩ := R.next_chief d (p + 1) (by omega) (by rw [k2]; exact hlt)
      exact ⟨q, j, o', by omega, h2, h3, h4, by rw [h5, k2], by rw [h6, k3]⟩
    · exact ⟨p, _, o, Nat.le_refl _, hj, F.op, k0, rfl, rfl⟩

theorem Run.last_done (R : Run P rec os pn a H L S) : ∀ (p : Nat), p ≤ L.length → ∀ i, (S p).last.testBit i = true → (S p).done.testBit i = true
  | 0, _, i, h => by obtain ⟨ps0, hst⟩ := R.start; rw [hst] at h; simp at h
  | p + 1, hp, i, h => by
    have hj : L[p]? = some L[p] := List.getElem?_eq_getElem (by omega)
    obtain ⟨o, v, H1, F⟩ := R.step p _ hj
    rcases F.kind with ⟨_, _, _, k3, _⟩ | ⟨_, _, _, k3, _⟩
    · rw [k3] at h
      rw [F.done, Nat.testBit_or, R.last_done p (by omega) i h]
      rfl
    · rw [k3] at h; exact h

end run

end
end Go.Eng
/-
  Allocations that float: what is laid in for those that wait for it keeps the two memories together.
-/
set_option linter.unusedVariables false
namespace Go.Eng
noncomputable section
variable {P : Program}

structure Pends (P : Program) (os : List Oper) (lo n : Nat) (ps : List Pend) : Prop where
  mem : ∀ p ∈ ps, lo ≤ p.id ∧ p.id < n ∧ ∃ o, os[p.op]? = some o ∧ floatOp o = true ∧ p.val = floatVal o.op p.id
  le : lo ≤ n
  bound : True
  sep : ps.Pairwise (fun p q => p.op < q.op ∧ p.id < q.id)

theorem reserve_ok : ∀ (os : List Oper) (i next : Nat) (ps : List Pend) (n : Nat), reserve os i next = (ps, n) →
    (∀ p ∈ ps, i ≤ p.op ∧ next ≤ p.id ∧ p.id < n ∧ ∃ o, os[p.op - i]? = some o ∧ floatOp o = true ∧ p.val = floatVal o.op p.id) ∧ next ≤ n ∧ True ∧ ps.Pairwise (fun p q => p.op < q.op ∧ p.id < q.id)
  | [], i, next, ps, n, h => by
    simp only [reserve] at h
    cases h
    exact ⟨by simp, Nat.le_refl _, trivial, List.Pairwise.nil⟩
  | o :: os, i, next, ps, n, h => by
    simp only [reserve] at h
    split at h
    · rename_i hfl
      cases h
      obtain ⟨r1, r2, r3, r4⟩ := reserve_ok os (i + 1) (next + 1) _ _ rfl
      refine ⟨fun p hp => ?_, by omega, trivial, List.Pairwise.cons (fun q hq => ?_) r4⟩
      · rcases List.mem_cons.1 hp with rfl | hp
        · exact ⟨Nat.le_refl _, Nat.le_refl _, by show next < _; omega, o, by simp, hfl, rfl⟩
        · obtain ⟨a1, a2, a3, o', b1, b2, b3⟩ := r1 p hp
          exact ⟨by omega, by omega, a3, o', by rw [show p.op - i = (p.op - (i + 1)) + 1 by omega, List.getElem?_cons_succ]; exact b1, b2, b3⟩
      · obtain ⟨a1, a2, _⟩ := r1 q hq
        exact ⟨by show i < q.op; omega, by show next < q.id; omega⟩
    · obtain ⟨r1, r2, r3, r4⟩ := reserve_ok os (i + 1) next ps n h
      refine ⟨fun p hp => ?_, r2, r3, r4⟩
      obtain ⟨a1, a2, a3, o', b1, b2, b3⟩ := r1 p hp
      exact ⟨by omega, a2, a3, o', by rw [show p.op - i = (p.op - (i + 1)) + 1 by omega, List.getElem?_cons_succ]; exact b1, b2, b3⟩

theorem Pends.of {os : List Oper} {lo n : Nat} {ps : List Pend} (h : reserve os 0 lo = (ps, n)) : Pends P os lo n ps := by
  obtain ⟨r1, r2, r3, r4⟩ := reserve_ok os 0 lo ps n h
  exact ⟨fun p hp => let ⟨_, a, b, c⟩ := r1 p hp; ⟨a, b, by simpa using c⟩, r2, r3, r4⟩

theorem Agree.mem {d : Nat} : ∀ {ps pn : List Pend}, Agree d ps pn → ∀ q ∈ pn, ∃ p ∈ ps, p.op = q.op ∧ p.id = q.id ∧ p.val = q.val
  | [], [], _, q, hq => by cases hq
  | x :: l, y :: m, ⟨⟨a, b, c, _⟩, hr⟩, q, hq => by
    rcases List.mem_cons.1 hq with rfl | hq
    · exact ⟨x, by simp, a, b, c⟩
    · obtain ⟨p, hp, h⟩ := hr.mem q hq; exact ⟨p, by simp [hp], h⟩
theorem Agree.sep {d : Nat} : ∀ {ps pn : List Pend}, Agree d ps pn → ps.Pairwise (fun p q => p.op < q.op ∧ p.id < q.id) → pn.Pairwise (fun p q => p.op < q.op ∧ p.id < q.id)
  | [], [], _, _ => List.Pairwise.nil
  | x :: l, y :: m, ⟨⟨a, b, c, _⟩, hr⟩, h => by
    obtain ⟨h1, h2⟩ := List.pairwise_cons.1 h
    refine List.Pairwise.cons (fun q hq => ?_) (hr.sep h2)
    obtain ⟨p, hp, k1, k2, _⟩ := hr.mem q hq
    rw [← a, ← b, ← k1, ← k2]
    exact h1 p hp
theorem Pends.agree {os : List Oper} {lo n d : Nat} {ps pn : List Pend} (h : Pends P os lo n ps) (ha : Agree d ps pn) : Pends P os lo n pn :=
  ⟨fun q hq => by
    obtain ⟨p, hp, k1, k2, k3⟩ := ha.mem q hq
    rw [← k1, ← k2, ← k3]
    exact h.mem p hp, h.le, trivial, ha.sep h.sep⟩

section
variable {os : List Oper} {lo n : Nat} {ps : List Pend}

theorem Pends.float (h : Pends P os lo n ps) {p : Pend} (hp : p ∈ ps) : ∃ o, os[p.op]? = some o ∧ floatOp o = true := by
  obtain ⟨_, _, o, h1, h2, _⟩ := h.mem p hp
  exact ⟨o, h1, h2⟩

theorem sep_of : ∀ {ps : List Pend}, ps.Pairwise (fun p q => p.op < q.op ∧ p.id < q.id) → ∀ p ∈ ps, ∀ q ∈ ps, p.op = q.op ∨ p.id = q.id → p = q
  | [], _, p, hp, _, _, _ => by cases hp
  | x :: l, h, p, hp, q, hq, e => by
    obtain ⟨h1, h2⟩ := List.pairwise_cons.1 h
    rcases List.mem_cons.1 hp with e1 | hp'
    · rcases List.mem_cons.1 hq with e2 | hq'
      · rw [e1, e2]
      · have := h1 q hq'; rw [e1] at e; omega
    · rcases List.mem_cons.1 hq with e2 | hq'
      · have := h1 p hp'; rw [e2] at e; omega
      · exact sep_of h2 p hp' q hq' e

theorem floatsOf_go : ∀ (ps : List Pend) (m i : Nat), (ps.foldl (fun m p => m ||| 2 ^ p.op) m).testBit i = true → m.testBit i = true ∨ ∃ p ∈ ps, p.op = i
  | [], m, i, h => .inl h
  | p :: ps, m, i, h => by
    rw [List.foldl_cons] at h
    rcases floatsOf_go ps _ i h with h1 | ⟨q, hq, e⟩
    · rw [Nat.testBit_or, Bool.or_eq_true, Nat.testBit_two_pow, decide_eq_true_eq] at h1
      rcases h1 with h1 | h1
      · exact .inl h1
      · exact .inr ⟨p, by simp, h1⟩
    · exact .inr ⟨q, by simp [hq], e⟩

theorem floatsOf_bit {i : Nat} (h : (floatsOf ps).testBit i = true) : ∃ p ∈ ps, p.op = i := by
  rcases floatsOf_go ps 0 i h with h | h
  · simp at h
  · exact h

theorem pendOf_ok {j : Nat} {p : Pend} (h : pendOf ps j = some p) : p ∈ ps ∧ p.op = j := by
  unfold pendOf at h
  exact ⟨List.mem_of_find?_eq_some h, by simpa using List.find?_some h⟩

theorem ins_next (c g : Nat) : ∀ (ps : List Pend) (M : AH), (ins c g ps M).next = M.next
  | [], M => rfl
  | p :: ps, M => by
    rw [ins, ins_next c g ps]
    split <;> rfl

theorem ins_not {c g j : Nat} : ∀ (ps : List Pend) (M : AH), (∀ p ∈ ps, p.id ≤ p.id) → (∀ p ∈ ps, c.testBit p.op = true → g.testBit p.op = false → p.id ≠ j) → (ins c g ps M).get j = M.get j
  | [], M, _, _ => rfl
  | p :: ps, M, hb, h => by
    rw [ins, ins_not ps _ (fun q hq => hb q (by simp [hq])) (fun q hq => h q (by simp [hq]))]
    split
    · rename_i hc
      simp only [Bool.and_eq_true, Bool.not_eq_true'] at hc
      rw [AH.get_set, if_neg (fun e => h p (by simp) hc.1 hc.2 e.symm)]
    · rfl

theorem ins_in {c g : Nat} : ∀ (ps : List Pend) (M : AH), (∀ p ∈ ps, p.id ≤ p.id) → ps.Pairwise (fun p q => p.op < q.op ∧ p.id < q.id) → ∀ p ∈ ps, c.testBit p.op = true → g.testBit p.op = false → (ins c g ps M).get p.id = some (.row p.row)
  | [], M, _, _, p, hp, _, _ => by cases hp
  | x :: ps, M, hb, hs, p, hp, h1, h2 => by
    obtain ⟨s1, s2⟩ := List.pairwise_cons.1 hs
    rw [ins]
    rcases List.mem_cons.1 hp with rfl | hp
    · rw [ins_not ps _ (fun q hq => hb q (by simp [hq])) (fun q hq _ _ => by have := s1 q hq; omega)]
      rw [if_pos (by simp [h1, h2]), AH.get_set, if_pos rfl]
    · exact ins_in ps _ (fun q hq => hb q (by simp [hq])) s2 p hp h1 h2

/-- what is known of the blocks of a region's allocations -/
structure PInv (ps : List Pend) (W0 : World) (ld : Array Bool) (ρ : Ren) (W : World) (m : PM) : Prop where
  on : ∀ p ∈ ps, ld.getD p.op false = true → ∃ pl, ρ p.id = some pl ∧ W0.heap.size ≤ pl.blk ∧ pl.blk < W.heap.size ∧ pl.base = 0 ∧ pl.esz = p.row.esz ∧ (m.got.testBit p.op = false → OR ρ W pl (.row p.row) ∧ ¬ Touch ρ m.H pl.blk)
  off : ∀ p ∈ ps, ld.getD p.op false = false → ρ p.id = none
  lt : ∀ p ∈ ps, p.id < m.H.next
  got : ∀ p ∈ ps, m.got.testBit p.op = true → ld.getD p.op false = true
  inj : ∀ p ∈ ps, ∀ q ∈ ps, p.id ≠ q.id → ∀ pl pl', ρ p.id = some pl → ρ q.id = some pl' → pl.blk ≠ pl'.blk

variable {ρ0 ρ ρ' : Ren} {H : AH} {W0 W W' : World} {m : PM} {ld : Array Bool}

theorem PInv.absent (pi : PInv ps W0 ld ρ W m) (hR : Rel ρ m.H W) {p : Pend} (hp : p ∈ ps) (hg : m.got.testBit p.op = false) : m.H.get p.id = none := by
  cases hc : m.H.get p.id with
  | none => rfl
  | some o =>
    obtain ⟨pl, h1, _⟩ := hR.obj p.id o hc
    cases hl : ld.getD p.op false with
    | false => rw [pi.off p hp hl] at h1; cases h1
    | true =>
      obtain ⟨pl', h2, _, _, _, _, h3⟩ := pi.on p hp hl
      rw [h1] at h2; cases h2
      exact absurd ⟨p.id, o, pl, hc, h1, rfl⟩ (h3 hg).2

/-- what lies in the filled memory -/
theorem ins_cases (Pd : Pends P os lo n ps) (hlo : True) {c j : Nat} {o : AO} (h : (m.ins c ps).get j = some o) :
    (∃ p ∈ ps, p.id = j ∧ c.testBit p.op = true ∧ m.got.testBit p.op = false ∧ o = .row p.row) ∨ (m.H.get j = some o ∧ ∀ p ∈ ps, c.testBit p.op = true → m.got.testBit p.op = false → p.id ≠ j) := by
  have hb : ∀ p ∈ ps, p.id ≤ p.id := fun p hp => by
    have := (Pd.mem p hp).2.1
    have := Pd.bound
    omega
  by_cases hs : ∃ p ∈ ps, c.testBit p.op = true ∧ m.got.testBit p.op = false ∧ p.id = j
  · obtain ⟨p, hp, h1, h2, rfl⟩ := hs
    unfold PM.ins at h
    rw [ins_in ps _ hb Pd.sep p hp h1 h2] at h
    cases h
    exact .inl ⟨p, hp, rfl, h1, h2, rfl⟩
  · have hn : ∀ p ∈ ps, c.testBit p.op = true → m.got.testBit p.op = false → p.id ≠ j := fun p hp h1 h2 e => hs ⟨p, hp, h1, h2, e⟩
    unfold PM.ins at h
    rw [ins_not ps _ hb hn] at h
    exact .inr ⟨h, hn⟩

theorem ins_in' (Pd : Pends P os lo n ps) (hlo : True) {c : Nat} {p : Pend} (hp : p ∈ ps) (h1 : c.testBit p.op = true) (h2 : m.got.testBit p.op = false) : (m.ins c ps).get p.id = some (.row p.row) :=
  ins_in ps _ (fun p hp => by
    have := (Pd.mem p hp).2.1
    have := Pd.bound
    omega) Pd.sep p hp h1 h2

/-- **Filled in, the memories still go along.** -/
theorem insert_st (Pd : Pends P os lo n ps) (hlo : True) {c : Nat} (pi : PInv ps W0 ld ρ W m) (hsel : ∀ p ∈ ps, c.testBit p.op = true → ld.getD p.op false = true) (st : St ρ0 H W0 ρ m.H W) : St ρ0 H W0 ρ (m.ins c ps) W := by
  have hnext : (m.ins c ps).next = m.H.next := ins_next _ _ _ _
  have blk : ∀ p ∈ ps, c.testBit p.op = true → m.got.testBit p.op = false → ∀ pl, ρ p.id = some pl → W0.heap.size ≤ pl.blk ∧ pl.blk < W.heap.size ∧ OR ρ W pl (.row p.row) ∧ ¬ Touch ρ m.H pl.blk := fun p hp h1 h2 pl hpl => by
    obtain ⟨pl', a1, a2, a3, _, _, a4⟩ := pi.on p hp (hsel p hp h1)
    rw [hpl] at a1; cases a1
    exact ⟨a2, a3, (a4 h2).1, (a4 h2).2⟩
  refine ⟨st.le, ⟨fun i p hi => by rw [hnext]; exact st.rel.dom i p hi, trivial, fun j o hj => ?_, fun i j oi oj pi' pj hi hj hij hpi hpj hblk => ?_⟩, by rw [hnext]; exact st.next, st.size, fun b hb hnot => ⟨(st.keep b hb hnot).1, ?_⟩, st.tape, st.os, st.output, st.old, fun b hb hnot => ?_⟩
  · rcases ins_cases Pd hlo hj with ⟨p, hp, rfl, h1, h2, rfl⟩ | ⟨h1, _⟩
    · obtain ⟨pl, a1, _, _, _, _, _⟩ := pi.on p hp (hsel p hp h1)
      obtain ⟨b1, b2, b3, b4⟩ := blk p hp h1 h2 pl a1
      exact ⟨pl, a1, b2, b3⟩
    · exact st.rel.obj j o h1
  · rcases ins_cases Pd hlo hi with ⟨p, hp, rfl, h1, h2, rfl⟩ | ⟨h1, _⟩
    · rcases ins_cases Pd hlo hj with ⟨q, hq, rfl, k1, k2, rfl⟩ | ⟨k1, _⟩
      · exact absurd hblk (pi.inj p hp q hq hij _ _ hpi hpj)
      · exact absurd ⟨j, oj, pj, k1, hpj, hblk.symm⟩ (blk p hp h1 h2 pi' hpi).2.2.2
    · rcases ins_cases Pd hlo hj with ⟨q, hq, rfl, k1, k2, rfl⟩ | ⟨k1, _⟩
      · exact absurd ⟨i, oi, pi', h1, hpi, hblk⟩ (blk q hq k1 k2 pj hpj).2.2.2
      · exact st.rel.share i j oi oj pi' pj h1 k1 hij hpi hpj hblk
  · rintro ⟨j, o, pl, hj, hrw, hpl, hb'⟩
    rcases ins_cases Pd hlo hj with ⟨p, hp, rfl, h1, h2, rfl⟩ | ⟨h1, _⟩
    · have := (blk p hp h1 h2 pl hpl).1
      omega
    · exact (st.keep b hb hnot).2 ⟨j, o, pl, h1, hrw, hpl, hb'⟩
  · rintro ⟨j, o, pl, hj, hpl, hb'⟩
    rcases ins_cases Pd hlo hj with ⟨p, hp, rfl, h1, h2, rfl⟩ | ⟨h1, _⟩
    · have := (blk p hp h1 h2 pl hpl).1
      omega
    · exact st.apart b hb hnot ⟨j, o, pl, h1, hpl, hb'⟩

/-- a memory that knows of fewer objects -/
theorem drop_st {M M' : AH} (st : St ρ0 H W0 ρ M' W) (hn : M.next = M'.next) (hs : ∀ j o, M.get j = some o → M'.get j = some o) : St ρ0 H W0 ρ M W := by
  refine ⟨st.le, ⟨fun i p hi => by rw [hn]; exact st.rel.dom i p hi, trivial, fun j o hj => st.rel.obj j o (hs j o hj), fun i j oi oj pi pj hi hj => st.rel.share i j oi oj pi pj (hs _ _ hi) (hs _ _ hj)⟩, by rw [hn]; exact st.next, st.size, fun b hb hnot => ⟨(st.keep b hb hnot).1, ?_⟩, st.tape, st.os, st.output, st.old, fun b hb hnot => ?_⟩
  · rintro ⟨j, o, pl, hj, hrw, hpl, hb'⟩
    exact (st.keep b hb hnot).2 ⟨j, o, pl, hs _ _ hj, hrw, hpl, hb'⟩
  · rintro ⟨j, o, pl, hj, hpl, hb'⟩
    exact st.apart b hb hnot ⟨j, o, pl, hs _ _ hj, hpl, hb'⟩

theorem ins_sub (Pd : Pends P os lo n ps) (hlo : True) {c : Nat} (pi : PInv ps W0 ld ρ W m) (hR : Rel ρ m.H W) : ∀ j o, m.H.get j = some o → (m.ins c ps).get j = some o := fun j o hj => by
  unfold PM.ins
  rw [ins_not ps _ (fun p hp => by
    have := (Pd.mem p hp).2.1
    have := Pd.bound
    omega) (fun p hp _ h2 e => by
      rw [← e, pi.absent hR hp h2] at hj
      cases hj)]
  exact hj

theorem Own.touch {ρ : Ren} {H : AH} {b : Nat} (h : Own ρ H b) : Touch ρ H b := by
  obtain ⟨i, o, pl, a, _, b, c⟩ := h
  exact ⟨i, o, pl, a, b, c⟩

/-- over an operation that saw the filled memory -/
theorem PInv.step (Pd : Pends P os lo n ps) (hlo : True) {c : Nat} (pi : PInv ps W0 ld ρ W m) (hR : Rel ρ m.H W) (hsel : ∀ p ∈ ps, c.testBit p.op = true → ld.getD p.op false = true)
    {M' : AH} {m' : PM} (st : St ρ (m.ins c ps) W ρ' M' W') (hm : (m' = m ∧ M' = m.ins c ps) ∨ (m'.H = M' ∧ m'.got = m.got ||| c)) {ld' : Array Bool} (hld : ∀ p ∈ ps, ld'.getD p.op false = ld.getD p.op false) : PInv ps W0 ld' ρ' W' m' := by
  have hnext : (m.ins c ps).next = m.H.next := ins_next _ _ _ _
  have old : ∀ p ∈ ps, ρ' p.id = ρ p.id := fun p hp => st.old _ (by rw [hnext]; exact pi.lt p hp)
  have hsub : ∀ j o, m'.H.get j = some o → M'.get j = some o := fun j o hj => by
    rcases hm with ⟨rfl, rfl⟩ | ⟨e, _⟩
    · exact ins_sub Pd hlo pi hR j o hj
    · rw [← e]; exact hj
  refine ⟨fun p hp hl => ?_, fun p hp hl => ?_, fun p hp => ?_, fun p hp hg => ?_, fun p hp q hq hne pl pl' h1 h2 => ?_⟩
  · rw [hld p hp] at hl
    obtain ⟨pl, a1, a2, a3, a4, a5, a6⟩ := pi.on p hp hl
    refine ⟨pl, st.le _ _ a1, a2, Nat.lt_of_lt_of_le a3 st.size, a4, a5, fun hg => ?_⟩
    have hg0 : m.got.testBit p.op = false := by
      rcases hm with ⟨rfl, _⟩ | ⟨_, e⟩
      · exact hg
      · rw [e, Nat.testBit_or, Bool.or_eq_false_iff] at hg; exact hg.1
    obtain ⟨b1, b2⟩ := a6 hg0
    cases hc : c.testBit p.op with
    | true =>
      rcases hm with ⟨rfl, rfl⟩ | ⟨_, e⟩
      · have hin := ins_in' (m := m') Pd hlo hp hc hg0
        obtain ⟨pl2, c1, c2, c3⟩ := st.rel.obj _ _ hin
        rw [st.le _ _ a1] at c1; cases c1
        refine ⟨c3, ?_⟩
        rintro ⟨j, o, plj, hj, hpj, hb⟩
        obtain ⟨plj0, d1, _⟩ := hR.obj j o hj
        have d2 := st.le _ _ d1
        rw [hpj] at d2; cases d2
        exact b2 ⟨j, o, plj, hj, d1, hb⟩
      · rw [e, Nat.testBit_or, hc, Bool.or_true] at hg
        cases hg
    | false =>
      have hnt : ¬ Touch ρ (m.ins c ps) pl.blk := by
        rintro ⟨j, o, plj, hj, hpj, hb⟩
        rcases ins_cases Pd hlo hj with ⟨q, hq, rfl, h1, h2, rfl⟩ | ⟨h1, _⟩
        · refine pi.inj q hq p hp (fun e => ?_) _ _ hpj a1 hb
          have := sep_of Pd.sep q hq p hp (.inr e)
          subst this
          rw [hc] at h1; cases h1
        · exact b2 ⟨j, o, plj, h1, hpj, hb⟩
      have k := st.keep pl.blk a3 (fun h => hnt h.touch)
      refine ⟨b1.congr st.le k.1, ?_⟩
      rintro ⟨j, o, plj, hj, hpj, hb⟩
      exact st.apart pl.blk a3 hnt ⟨j, o, plj, hsub j o hj, hpj, hb⟩
  · rw [hld p hp] at hl
    rw [old p hp]
    exact pi.off p hp hl
  · have h1 := pi.lt p hp
    have h2 := st.next
    rw [hnext] at h2
    rcases hm with ⟨rfl, _⟩ | ⟨e, _⟩
    · exact h1
    · rw [e]; omega
  · rw [hld p hp]
    rcases hm with ⟨rfl, _⟩ | ⟨_, e⟩
    · exact pi.got p hp hg
    · rw [e, Nat.testBit_or, Bool.or_eq_true] at hg
      rcases hg with hg | hg
      · exact pi.got p hp hg
      · exact hsel p hp hg
  · rw [old p hp] at h1
    rw [old q hq] at h2
    exact pi.inj p hp q hq hne _ _ h1 h2

/-- **An allocation of a drawn region, where it comes up.** -/
theorem PInv.float (Pd : Pends P os H.next n ps) (pi : PInv ps W0 ld ρ W m) (st : St ρ0 H W0 ρ m.H W) {p : Pend} (hp : p ∈ ps) (hl : ld.getD p.op false = false) {t : TypeId} {esz : Nat} {zs : List Value} (hr : p.row = floatRow t p.id esz zs) {cs : Array Value} (hz : LR ρ zs cs.toList)
    {ld' : Array Bool} (hld : ∀ j, ld'.getD j false = true ↔ (j = p.op ∨ ld.getD j false = true)) :
    ∃ pl, (ρ.with p.id pl) p.id = some pl ∧ pl.blk = W.heap.size ∧ pl.base = 0 ∧ pl.esz = esz ∧ ρ.le (ρ.with p.id pl) ∧ St ρ0 H W0 (ρ.with p.id pl) m.H { W with heap := W.heap.push (.cells cs t) } ∧ PInv ps W0 ld' (ρ.with p.id pl) { W with heap := W.heap.push (.cells cs t) } m := by
  have hno := pi.off p hp hl
  have hg : m.got.testBit p.op = false := by
    cases hg : m.got.testBit p.op with
    | false => rfl
    | true => have := pi.got p hp hg; rw [hl] at this; cases this
  have hsame : ∀ b, b < W.heap.size → ({ W with heap := W.heap.push (.cells cs t) } : World).heap[b]? = W.heap[b]? := fun b hb' => by
    show (W.heap.push _)[b]? = _
    rw [Array.getElem?_push, if_neg (by omega)]
  have hsz : ({ W with heap := W.heap.push (.cells cs t) } : World).heap.size = W.heap.size + 1 := by simp
  refine ⟨⟨W.heap.size, 0, esz, cs.toList.length⟩, by simp [Ren.with], rfl, rfl, rfl, ?_⟩
  have hle : ρ.le (ρ.with p.id ⟨W.heap.size, 0, esz, cs.toList.length⟩) := fun i q hi => by
    simp only [Ren.with]
    rw [if_neg (fun e => by rw [e, hno] at hi; cases hi)]
    exact hi
  have hnone : m.H.get p.id = none := pi.absent st.rel hp hg
  have hother : ∀ j, j ≠ p.id → (ρ.with p.id ⟨W.heap.size, 0, esz, cs.toList.length⟩) j = ρ j := fun j hj => by simp [Ren.with, hj]
  have hself : (ρ.with p.id ⟨W.heap.size, 0, esz, cs.toList.length⟩) p.id = some ⟨W.heap.size, 0, esz, cs.toList.length⟩ := by simp [Ren.with]
  have hne : ∀ j o, m.H.get j = some o → j ≠ p.id := fun j o hj e => by rw [e, hnone] at hj; cases hj
  have hor : OR (ρ.with p.id ⟨W.heap.size, 0, esz, cs.toList.length⟩) { W with heap := W.heap.push (.cells cs t) } ⟨W.heap.size, 0, esz, cs.toList.length⟩ (.row p.row) := by
    rw [hr]
    have hl1 := hz.1
    refine new_row_or (esz := esz) (cs := zs) (cs' := cs.toList) (t := t) (n1 := p.id) (n2 := 0) ⟨(0, 0), by simp, fun h => (h rfl).elim, fun _ => rfl⟩ ?_ (by omega)
    have : List.take zs.length cs.toList = cs.toList := List.take_of_length_le (by omega)
    rw [this]
    exact hz.mono hle
  have hb0 : (⟨W.heap.size, 0, esz, cs.toList.length⟩ : Pl).blk = W.heap.size := rfl
  have hb1 : (⟨W.heap.size, 0, esz, cs.toList.length⟩ : Pl).base = 0 := rfl
  have hb2 : (⟨W.heap.size, 0, esz, cs.toList.length⟩ : Pl).esz = esz := rfl
  generalize (⟨W.heap.size, 0, esz, cs.toList.length⟩ : Pl) = pl0 at *
  have hst := st.size
  have hmem := (Pd.mem p hp)
  refine ⟨hle, ⟨Ren.le_trans st.le hle, ⟨fun i q hi => ?_, st.rel.nxt, fun j o hj => ?_, fun i j oi oj pi' pj hi hj hij hpi hpj hblk => ?_⟩, st.next, by rw [hsz]; omega, fun b hb hnot => ⟨?_, ?_⟩, st.tape, st.os, st.output, fun i hi => ?_, fun b hb hnot => ?_⟩,
    ⟨fun q hq hlq => ?_, fun q hq hlq => ?_, pi.lt, fun q hq hgq => (hld _).2 (.inr (pi.got q hq hgq)), fun q hq r hr hqr pl pl' h1 h2 => ?_⟩⟩
  · by_cases e : i = p.id
    · subst e; exact pi.lt p hp
    · rw [hother i e] at hi; exact st.rel.dom i q hi
  · obtain ⟨pl, a1, a2, a3⟩ := st.rel.obj j o hj
    exact ⟨pl, hle _ _ a1, by rw [hsz]; omega, a3.congr hle (hsame _ a2)⟩
  · rw [hother i (hne i oi hi)] at hpi
    rw [hother j (hne j oj hj)] at hpj
    exact st.rel.share i j oi oj pi' pj hi hj hij hpi hpj hblk
  · rw [hsame b (by omega)]; exact (st.keep b hb hnot).1
  · rintro ⟨j, o, pl, hj, hrw, hpl, hb'⟩
    rw [hother j (hne j o hj)] at hpl
    exact (st.keep b hb hnot).2 ⟨j, o, pl, hj, hrw, hpl, hb'⟩
  · rw [hother i (by omega)]; exact st.old i hi
  · rintro ⟨j, o, pl, hj, hpl, hb'⟩
    rw [hother j (hne j o hj)] at hpl
    exact st.apart b hb hnot ⟨j, o, pl, hj, hpl, hb'⟩
  · by_cases e : q = p
    · subst e
      refine ⟨pl0, hself, by omega, by rw [hsz]; omega, hb1, by rw [hb2, hr]; rfl, fun _ => ⟨hor, ?_⟩⟩
      rintro ⟨j, o, pl, hj, hpl, hb'⟩
      rw [hother j (hne j o hj)] at hpl
      obtain ⟨pl2, c1, c2, _⟩ := st.rel.obj j o hj
      rw [hpl] at c1; cases c1
      omega
    · have hid : q.id ≠ p.id := fun h => e (sep_of Pd.sep q hq p hp (.inr h))
      have hop : q.op ≠ p.op := fun h => e (sep_of Pd.sep q hq p hp (.inl h))
      have hlq' : ld.getD q.op false = true := by
        rcases (hld q.op).1 hlq with h | h
        · exact absurd h hop
        · exact h
      obtain ⟨pl, a1, a2, a3, a4, a5, a6⟩ := pi.on q hq hlq'
      refine ⟨pl, hle _ _ a1, a2, by rw [hsz]; omega, a4, a5, fun hg' => ⟨(a6 hg').1.congr hle (hsame _ a3), ?_⟩⟩
      rintro ⟨j, o, plj, hj, hpj, hb'⟩
      rw [hother j (hne j o hj)] at hpj
      exact (a6 hg').2 ⟨j, o, plj, hj, hpj, hb'⟩
  · have hop : q.op ≠ p.op := fun h => by rw [(hld q.op).2 (.inl h)] at hlq; cases hlq
    have hid : q.id ≠ p.id := fun h => hop (by rw [sep_of Pd.sep q hq p hp (.inr h)])
    rw [hother _ hid]
    refine pi.off q hq ?_
    cases h : ld.getD q.op false with
    | false => rfl
    | true => rw [(hld q.op).2 (.inr h)] at hlq; cases hlq
  · have old : ∀ q ∈ ps, q.id ≠ p.id → ∀ pl, ρ q.id = some pl → pl.blk < W.heap.size := fun q hq _ pl h => by
      cases hl : ld.getD q.op false with
      | false => rw [pi.off q hq hl] at h; cases h
      | true =>
        obtain ⟨pl', a1, _, a3, _⟩ := pi.on q hq hl
        rw [h] at a1; cases a1; exact a3
    by_cases e1 : q.id = p.id
    · have e2 : r.id ≠ p.id := fun h => hqr (e1.trans h.symm)
      rw [e1, hself] at h1
      cases h1
      rw [hother _ e2] at h2
      have := old r hr e2 _ h2
      omega
    · rw [hother _ e1] at h1
      by_cases e2 : r.id = p.id
      · rw [e2, hself] at h2
        cases h2
        have := old q hq e1 _ h1
        omega
      · rw [hother _ e2] at h2
        exact pi.inj q hq r hr hqr _ _ h1 h2

end

end
end Go.Eng
