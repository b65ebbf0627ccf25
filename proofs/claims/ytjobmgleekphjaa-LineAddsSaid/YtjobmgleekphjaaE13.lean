/-
  A region whose order is open: whatever order is drawn, what the abstract machine tells holds.
-/
import Derived.Test.YtjobmgleekphjaaE12
set_option linter.unusedSimpArgs false
namespace Go.Eng
noncomputable section
variable {P : Program}

def light (P : Program) (o : Oper) : Bool := pureOp P o.op || readOp o.op || floatOp o

/-- an answer that leans on no memory -/
def Free (f : AH → R (Value × AH)) : Prop := ∃ x : R Value, ∀ H, f H = x >>= fun v => .ok (v, H)

theorem Free.err {n : Nat} : Free (fun _ => .error n) := ⟨.error n, fun _ => rfl⟩
theorem Free.val {v : Value} : Free (fun H => .ok (v, H)) := ⟨.ok v, fun _ => rfl⟩
theorem Free.bind {α : Type} {x : R α} {f : α → AH → R (Value × AH)} (h : ∀ a, Free (f a)) : Free (fun H => x >>= fun a => f a H) := by
  cases x with
  | error e => exact ⟨.error e, fun _ => rfl⟩
  | ok a => obtain ⟨y, hy⟩ := h a; exact ⟨y, fun H => hy H⟩

theorem aOp_free {rec : Rec} {a : AAct} {o : Oper} (hp : pureOp P o.op = true) : Free (fun H => aOp P rec a H o) := by
  obtain ⟨d, op, ty, ps, af, gu⟩ := o
  cases op <;> simp only [pureOp] at hp <;> first | (cases hp; done) | skip
  case move x => simp only [aOp]; exact Free.bind fun u => Free.val
  case assign x => simp only [aOp]; exact Free.bind fun u => Free.val
  case pick c x y =>
    simp only [aOp]
    refine Free.bind fun u => ?_
    split
    · exact Free.bind fun u => Free.val
    · exact Free.err
  case nilCheck x =>
    simp only [aOp]
    refine Free.bind fun u => ?_
    split
    · exact Free.val
    · exact Free.val
    · exact Free.val
    · exact Free.err
  case binOp op t x y t2 =>
    simp only [aOp]
    refine Free.bind fun u => Free.bind fun w => ?_
    split
    · exact Free.bind fun z => Free.val
    · exact Free.bind fun z => Free.val
  case unOp op t x =>
    simp only [aOp]
    refine Free.bind fun u => ?_
    split
    · exact Free.bind fun u => Free.val
    · exact Free.bind fun u => Free.val
    · exact Free.err
  case makeInterface t x =>
    simp only [aOp]
    split
    · exact Free.err
    · exact Free.bind fun u => Free.val
    · exact Free.err
  case makeFunc fn first cap =>
    cases fn <;> simp only [aOp] <;> first | exact Free.err | exact Free.bind fun u => Free.bind fun w => Free.val
  case fieldAddr t x f =>
    simp only [aOp]
    split
    · split
      · refine Free.bind fun u => Free.bind fun p => Free.bind fun n => ?_
        split
        · exact Free.err
        · exact Free.val
      · exact Free.err
    · exact Free.err
  case field t x f =>
    simp only [aOp]
    refine Free.bind fun u => ?_
    split
    · split
      · exact Free.bind fun u => Free.val
      · exact Free.err
    · exact Free.err
  case indexAddr t x i =>
    simp only [aOp]
    refine Free.bind fun u => ?_
    split
    · refine Free.bind fun u => Free.bind fun i => ?_
      split
      · exact Free.bind fun u => Free.val
      · exact Free.err
    · refine Free.bind fun u => Free.bind fun i => ?_
      split
      · exact Free.bind fun u => Free.val
      · exact Free.err
    · exact Free.err
  case index t x i =>
    simp only [aOp]
    refine Free.bind fun u => ?_
    split
    · refine Free.bind fun u => Free.bind fun i => ?_
      split
      · exact Free.val
      · exact Free.err
    · refine Free.bind fun u => Free.bind fun i => ?_
      split
      · exact Free.bind fun u => Free.bind fun w => Free.val
      · exact Free.err
    · exact Free.err
  case extract x i =>
    simp only [aOp]
    refine Free.bind fun u => ?_
    split
    · split
      · exact Free.val
      · exact Free.err
    · exact Free.err
  case build t parts =>
    simp only [aOp]
    refine Free.bind fun u => Free.bind fun zs => ?_
    split
    · refine Free.bind fun pl => ?_
      split
      · exact Free.val
      · exact Free.err
    · refine Free.bind fun pl => ?_
      split
      · exact Free.val
      · exact Free.err
    · exact Free.err
  case convert s t x =>
    simp only [aOp]
    refine Free.bind fun u => ?_
    split at hp
    · rename_i k hk
      unfold aConvert
      split
      · split
        · rename_i h1 h2; rw [hk] at h1; cases h1
        · exact Free.err
      · split
        · rename_i h1 h2; rw [hk] at h1; cases h1
        · exact Free.err
      · split
        · rename_i h1 h2; rw [hk] at h1; cases h1
        · exact Free.bind fun u => Free.val
      · exact Free.bind fun u => Free.val
      · exact Free.err
    · cases hp
  case call c =>
    obtain ⟨cal, args, ats⟩ := c
    cases cal with
    | value f => simp at hp
    | invoke r m => simp at hp
    | builtin b =>
      cases b <;> simp only at hp <;> first | (cases hp; done) | skip
      · simp only [aOp]
        refine Free.bind fun vs => ?_
        rcases vs with _ | ⟨x, _ | ⟨y, l⟩⟩
        · exact Free.err
        · simp only
          split
          · exact Free.bind fun u => Free.val
          · exact Free.err
        · exact Free.err
      · simp only [aOp]
        refine Free.bind fun vs => ?_
        split
        · exact Free.bind fun u => Free.val
        · exact Free.err
      · simp only [aOp]
        refine Free.bind fun vs => ?_
        split
        · exact Free.bind fun u => Free.val
        · exact Free.err

theorem aOp_pure {rec : Rec} {a : AAct} {H H1 : AH} {o : Oper} {v : Value} (hp : pureOp P o.op = true) (h : aOp P rec a H o = .ok (v, H1)) : H1 = H ∧ ∀ H2, aOp P rec a H2 o = .ok (v, H2) := by
  obtain ⟨x, hx⟩ := aOp_free (P := P) (rec := rec) (a := a) hp
  simp only at hx
  rw [hx] at h
  obtain ⟨u, h1, h2⟩ := bok h
  cases h2
  exact ⟨rfl, fun H2 => by rw [hx, h1]; rfl⟩

theorem aOp_read {rec : Rec} {a : AAct} {H H1 : AH} {o : Oper} {v : Value} (hp : readOp o.op = true) (h : aOp P rec a H o = .ok (v, H1)) : H1 = H := by
  obtain ⟨d, op, ty, ps, af, gu⟩ := o
  cases op <;> simp only [readOp] at hp <;> first | (cases hp; done) | skip
  case load t x =>
    simp only [aOp] at h
    obtain ⟨u, h1, h2⟩ := bok h
    obtain ⟨p, h3, h4⟩ := bok h2
    obtain ⟨w, h5, h6⟩ := bok h4
    cases h6
    rfl
  case lookup t x i ok =>
    simp only [aOp] at h
    obtain ⟨u, h1, h2⟩ := bok h
    obtain ⟨p, h3, h4⟩ := bok h2
    obtain ⟨w, h5, h6⟩ := bok h4
    cases h6
    rfl
  case typeAssert x xt t ok =>
    simp only [aOp] at h
    obtain ⟨u, h1, h2⟩ := bok h
    obtain ⟨p, h3, h4⟩ := bok h2
    cases h4
    rfl
  case slice t x lo hi mx =>
    simp only [aOp] at h
    obtain ⟨u, h1, h2⟩ := bok h
    obtain ⟨p, h3, h4⟩ := bok h2
    obtain ⟨w, h5, h6⟩ := bok h4
    obtain ⟨w2, h7, h8⟩ := bok h6
    obtain ⟨w3, h9, h10⟩ := bok h8
    cases h10
    rfl

theorem aDo_pure {rec : Rec} {os : List Oper} {a : AAct} {H H1 : AH} {o : Oper} {v : Value} (hp : pureOp P o.op = true) (h : aDo P rec os a H o = .ok (v, H1)) : H1 = H ∧ ∀ H2, aDo P rec os a H2 o = .ok (v, H2) := by
  unfold aDo at h ⊢
  obtain ⟨b, h1, h2⟩ := bok h
  cases b with
  | true =>
    simp only [if_true] at h2
    obtain ⟨e, h3⟩ := aOp_pure hp h2
    exact ⟨e, fun H2 => by rw [h1]; exact h3 H2⟩
  | false =>
    simp only [Bool.false_eq_true, if_false] at h2
    cases h2
    exact ⟨rfl, fun H2 => by rw [h1]; rfl⟩

theorem aDo_read {rec : Rec} {os : List Oper} {a : AAct} {H H1 : AH} {o : Oper} {v : Value} (hp : readOp o.op = true) (h : aDo P rec os a H o = .ok (v, H1)) : H1 = H := by
  unfold aDo at h
  obtain ⟨b, h1, h2⟩ := bok h
  cases b with
  | true => simp only [if_true] at h2; exact aOp_read hp h2
  | false => simp only [Bool.false_eq_true, if_false] at h2; cases h2; rfl

theorem sameBack_spec {rec : Rec} {os : List Oper} {pn : List Pend} {a : AAct} {o : Oper} {v : Value} {c : Nat} (hr : readOp o.op = true) : ∀ (l : List (Nat × PM)), sameBack P rec os pn a o v c l = true → ∀ (m : Nat) (x : Nat × PM), l[m]? = some x → (∀ (m' : Nat) (y : Nat × PM), m' ≤ m → l[m']? = some y → c.testBit y.1 = false) → aDo P rec os a (x.2.ins c pn) o = .ok (v, x.2.ins c pn)
  | [], _, m, x, hx, _ => by simp at hx
  | (j, H) :: l, h, m, x, hx, hn => by
    have h0 := hn 0 (j, H) (Nat.zero_le _) rfl
    simp only [sameBack, h0, Bool.false_eq_true, if_false, Bool.and_eq_true] at h
    cases m with
    | zero =>
      simp at hx
      subst hx
      have h1 := h.1
      split at h1
      · rename_i u H1 hd
        have e := aDo_read hr hd
        subst e
        rw [hd, veq_eq _ h1]
      · cases h1
    | succ m =>
      exact sameBack_spec hr l h.2 m x (by simpa using hx) (fun m' y hm hy => hn (m' + 1) y (by omega) (by simpa using hy))

structure StepFacts (P : Program) (rec : Rec) (os : List Oper) (cl : List Nat) (pn : List Pend) (s : DS) (j : Nat) (s' : DS) (o : Oper) (v : Value) (H1 : AH) : Prop where
  op : os[j]? = some o
  fresh : s.done.testBit j = false
  below : ∀ i, (cl.getD j 0).testBit i = true → s.done.testBit i = true
  did : floatOp o = false → aDo P rec os s.a (s.m.ins (cl.getD j 0) pn) o = .ok (v, H1)
  flo : floatOp o = true → ∃ p, pendOf pn j = some p ∧ v = .pointer (some ⟨p.id, 0, none⟩)
  put : s.a.put o.dst v = .ok s'.a
  done : s'.done = s.done ||| 2 ^ j
  kind : (light P o = true ∧ s'.m = s.m ∧ s'.chs = s.chs ∧ s'.last = s.last ∧ (floatOp o = true ∨ pureOp P o.op = true ∨ (readOp o.op = true ∧ sameBack P rec os pn s.a o v (cl.getD j 0) s.chs = true))) ∨
    (light P o = false ∧ s'.m = ⟨H1, s.m.got ||| cl.getD j 0⟩ ∧ s'.chs = (j, s.m) :: s.chs ∧ s'.last = s'.done ∧ (∀ i, (s.done ^^^ s.last).testBit i = true → (cl.getD j 0).testBit i = true ∨ (floatsOf pn).testBit i = true) ∧
      (∀ c0 l, s.chs = c0 :: l → (cl.getD j 0).testBit c0.1 = true))

theorem light_chief {o : Oper} (h : light P o = false) : floatOp o = false := by
  unfold light at h
  simp only [Bool.or_eq_false_iff] at h
  exact h.2

theorem dStep_ok {rec : Rec} {os : List Oper} {cl : List Nat} {pn : List Pend} {s s' : DS} {j : Nat} (h : dStep P rec os cl pn s j = .ok s') : ∃ o v H1, StepFacts P rec os cl pn s j s' o v H1 := by
  unfold dStep at h
  split at h
  · cases h
  · rename_i o ho
    split at h
    · cases h
    rename_i hf
    split at h
    · cases h
    rename_i hb
    have hb' := bitsIn_iff.1 (by simpa using hb : bitsIn (cl.getD j 0) s.done = true)
    have hf' : s.done.testBit j = false := by simpa using hf
    split at h
    · rename_i q hfl hq
      obtain ⟨a1, h3, h4⟩ := bok h
      cases h4
      exact ⟨o, .pointer (some ⟨q.id, 0, none⟩), s.m.H, ho, hf', hb', (fun h => by rw [hfl] at h; cases h), fun _ => ⟨q, hq, rfl⟩, h3, rfl, .inl ⟨by simp [light, hfl], rfl, rfl, rfl, .inl hfl⟩⟩
    · cases h
    rename_i hfl
    obtain ⟨⟨v, H1⟩, h1, h2⟩ := bok h
    clear h
    obtain ⟨a1, h3, h4⟩ := bok h2
    clear h2
    have hd : floatOp o = false → aDo P rec os s.a (s.m.ins (cl.getD j 0) pn) o = .ok (v, H1) := fun _ => h1
    have hq : floatOp o = true → ∃ p, pendOf pn j = some p ∧ v = .pointer (some ⟨p.id, 0, none⟩) := fun h => by rw [hfl] at h; cases h
    split at h4
    · rename_i hp
      cases h4
      exact ⟨o, v, H1, ho, hf', hb', hd, hq, h3, rfl, .inl ⟨by simp [light, hp], rfl, rfl, rfl, .inr (.inl hp)⟩⟩
    · rename_i hnp
      split at h4
      · rename_i hr
        split at h4
        · rename_i hs
          cases h4
          exact ⟨o, v, H1, ho, hf', hb', hd, hq, h3, rfl, .inl ⟨by simp [light, hr], rfl, rfl, rfl, .inr (.inr ⟨hr, hs⟩)⟩⟩
        · cases h4
      · rename_i hnr
        split at h4
        · cases h4
        rename_i hx
        have hx' : ∀ i, (s.done ^^^ s.last).testBit i = true → (cl.getD j 0).testBit i = true ∨ (floatsOf pn).testBit i = true := fun i hi => by
          have := bitsIn_iff.1 (by simpa using hx : bitsIn (s.done ^^^ s.last) (cl.getD j 0 ||| floatsOf pn) = true) i hi
          rw [Nat.testBit_or, Bool.or_eq_true] at this
          exact this
        rcases hs : s.chs with _ | ⟨⟨c0, m0⟩, l0⟩
        · rw [hs] at h4
          simp only [Bool.not_true, Bool.false_eq_true, if_false] at h4
          cases h4
          exact ⟨o, v, H1, ho, hf', hb', hd, hq, h3, rfl, .inr ⟨by simp [light, hnp, hnr, hfl], rfl, by rw [hs], rfl, hx', fun c0 l e => by rw [hs] at e; cases e⟩⟩
        · rw [hs] at h4
          by_cases hc : (cl.getD j 0).testBit c0 = true
          · simp only [hc, Bool.not_true, Bool.false_eq_true, if_false] at h4
            cases h4
            exact ⟨o, v, H1, ho, hf', hb', hd, hq, h3, rfl, .inr ⟨by simp [light, hnp, hnr, hfl], rfl, by rw [hs], rfl, hx', fun c1 l e => by rw [hs] at e; cases e; exact hc⟩⟩
          · simp only [hc, Bool.not_false, if_true] at h4
            cases h4

/-- what is known of a whole region, once the abstract machine has gone through it -/
structure Run (P : Program) (rec : Rec) (os : List Oper) (pn : List Pend) (a : AAct) (H : AH) (L : List Nat) (S : Nat → DS) : Prop where
  start : S 0 = { done := 0, last := 0, chs := [], a := a, m := ⟨H, 0⟩ }
  step : ∀ (p j : Nat), L[p]? = some j → ∃ o v H1, StepFacts P rec os (clos os) pn (S p) j (S (p + 1)) o v H1
  edges : EdgesBack os
  tmps : ∀ (j i : Nat) (o w : Oper) (t : Nat), os[j]? = some o → os[i]? = some w → w.dst = some t → i = j ∨ (o.dst ≠ some t ∧ (t ∉ looks os o ∨ ((clos os).getD j 0).testBit i = true ∨ ((clos os).getD i 0).testBit j = true))
  all : (S L.length).done = 2 ^ os.length - 1

section run
variable {rec : Rec} {os : List Oper} {pn : List Pend} {a : AAct} {H : AH} {L : List Nat} {S : Nat → DS}

theorem Run.lt (_ : Run P rec os pn a H L S) {p j : Nat} (h : L[p]? = some j) : p < L.length := by
  rcases Nat.lt_or_ge p L.length with h' | h'
  · exact h'
  · rw [List.getElem?_eq_none h'] at h; cases h

theorem Run.done_bit (R : Run P rec os pn a H L S) : ∀ (p : Nat), p ≤ L.length → ∀ i, (S p).done.testBit i = true ↔ ∃ q, q < p ∧ L[q]? = some i
  | 0, _, i => by
    rw [R.start]
    simp
  | p + 1, hp, i => by
    have hj : L[p]? = some L[p] := List.getElem?_eq_getElem (by omega)
    obtain ⟨o, v, H1, F⟩ := R.step p _ hj
    rw [F.done, Nat.testBit_or, Bool.or_eq_true, R.done_bit p (by omega), Nat.testBit_two_pow, decide_eq_true_eq]
    constructor
    · rintro (⟨q, h1, h2⟩ | h)
      · exact ⟨q, by omega, h2⟩
      · exact ⟨p, by omega, by rw [hj, h]⟩
    · rintro ⟨q, h1, h2⟩
      by_cases e : q = p
      · subst e; rw [hj] at h2; cases h2; exact .inr rfl
      · exact .inl ⟨q, by omega, h2⟩

theorem Run.unique (R : Run P rec os pn a H L S) {p q i : Nat} (hp : L[p]? = some i) (hq : L[q]? = some i) : p = q := by
  have key : ∀ p q, p < q → L[p]? = some i → L[q]? = some i → False := fun p q hlt hp hq => by
    obtain ⟨o, v, H1, F⟩ := R.step q i hq
    have := (R.done_bit q (by have := R.lt hq; omega) i).2 ⟨p, hlt, hp⟩
    rw [F.fresh] at this
    cases this
  rcases Nat.lt_trichotomy p q with h | h | h
  · exact (key p q h hp hq).elim
  · exact h
  · exact (key q p h hq hp).elim

theorem Run.place (R : Run P rec os pn a H L S) {i : Nat} (hi : i < os.length) : ∃ p : Nat, L[p]? = some i := by
  have h1 : (S L.length).done.testBit i = true := by
    rw [R.all, Nat.testBit_two_pow_sub_one]
    simpa using hi
  obtain ⟨q, _, hq⟩ := (R.done_bit L.length (Nat.le_refl _) i).1 h1
  exact ⟨q, hq⟩

/-- the temporaries as they stand at a place -/
theorem Run.n_eq (R : Run P rec os pn a H L S) : ∀ (p : Nat), p ≤ L.length → (S p).a.n = a.n ∧ (S p).a.marks = a.marks
  | 0, _ => by rw [R.start]; exact ⟨rfl, rfl⟩
  | p + 1, hp => by
    have hj : L[p]? = some L[p] := List.getElem?_eq_getElem (by omega)
    obtain ⟨o, v, H1, F⟩ := R.step p _ hj
    obtain ⟨e1, e2⟩ := put_n F.put
    obtain ⟨e3, e4⟩ := R.n_eq p (by omega)
    exact ⟨e1.trans e3, e2.trans e4⟩

theorem put_get {a a' : AAct} {d : Option Tmp} {v : Value} (h : a.put d v = .ok a') (t : Nat) : a'.tm.get t = if d = some t then some v else a.tm.get t := by
  rw [AAct.put_eq] at h
  cases d with
  | none => cases h; simp
  | some d =>
    simp only at h
    split at h
    · rename_i hd
      cases h
      rw [show (T.put AH.top a.tm d v).get t = if t = d then some v else a.tm.get t from T.get_put 48 _ _ _ _ (by have h1 : d < a.n := hd.1; have h2 : a.n < 281474976710655 := hd.2; show d + 1 < 2 ^ 48; rw [show (2:Nat) ^ 48 = 281474976710656 from rfl]; exact Nat.lt_of_le_of_lt h1 (Nat.lt_trans h2 (by decide)))]
      by_cases e : t = d
      · subst e; simp
      · rw [if_neg e, if_neg (by intro h; cases h; exact e rfl)]
    · cases h

/-- the value that an operation has come to -/
def valAt (P : Program) (rec : Rec) (os : List Oper) (pn : List Pend) (S : Nat → DS) (p j : Nat) : Value :=
  match os[j]? with
  | some o => if floatOp o then (match pendOf pn j with
    | some q => .pointer (some ⟨q.id, 0, none⟩)
    | none => undef) else (match aDo P rec os (S p).a ((S p).m.ins ((clos os).getD j 0) pn) o with
    | .ok (v, _) => v
    | .error _ => undef)
  | none => undef

theorem StepFacts.val {s' : DS} {p j : Nat} {o : Oper} {v : Value} {H1 : AH} (F : StepFacts P rec os (clos os) pn (S p) j s' o v H1) : valAt P rec os pn S p j = v := by
  unfold valAt
  rw [F.op]
  simp only
  cases hf : floatOp o with
  | true =>
    obtain ⟨q, h1, h2⟩ := F.flo hf
    simp only [if_true, h1, h2]
  | false => simp only [Bool.false_eq_true, if_false, F.did hf]

theorem Run.tm_some (R : Run P rec os pn a H L S) : ∀ (p : Nat), p ≤ L.length → ∀ (q j : Nat) (o : Oper) (t : Nat), q < p → L[q]? = some j → os[j]? = some o → o.dst = some t → (S p).a.tm.get t = some (valAt P rec os pn S q j)
  | 0, _, q, j, o, t, hq, _, _, _ => by omega
  | p + 1, hp, q, j, o, t, hq, h1, h2, h3 => by
    have hj : L[p]? = some L[p] := List.getElem?_eq_getElem (by omega)
    obtain ⟨o', v, H1, F⟩ := R.step p _ hj
    rw [put_get F.put]
    by_cases e : q = p
    · subst e
      rw [hj] at h1; cases h1
      have : o' = o := by have := F.op; rw [h2] at this; cases this; rfl
      subst this
      rw [if_pos h3, F.val]
    · have hne : o'.dst ≠ some t := fun hd => by
        rcases R.tmps _ _ o' o t F.op h2 h3 with h | ⟨h, _⟩
        · rw [h] at h1
          exact e (R.unique h1 hj)
        · exact h hd
      rw [if_neg hne]
      exact R.tm_some p (by omega) q j o t (by omega) h1 h2 h3

theorem Run.tm_none (R : Run P rec os pn a H L S) : ∀ (p : Nat), p ≤ L.length → ∀ (t : Nat), (∀ (q j : Nat) (o : Oper), q < p → L[q]? = some j → os[j]? = some o → o.dst ≠ some t) → (S p).a.tm.get t = a.tm.get t
  | 0, _, t, _ => by rw [R.start]
  | p + 1, hp, t, h => by
    have hj : L[p]? = some L[p] := List.getElem?_eq_getElem (by omega)
    obtain ⟨o', v, H1, F⟩ := R.step p _ hj
    rw [put_get F.put, if_neg (h p _ o' (by omega) hj F.op)]
    exact R.tm_none p (by omega) t (fun q j o hq => h q j o (by omega))

/-- the memories behind so many chief operations -/
def memAt (L : List Nat) (S : Nat → DS) (k : Nat) : PM :=
  match (S L.length).chs.reverse[k]? with
  | some x => x.2
  | none => (S L.length).m

theorem Run.suffix (R : Run P rec os pn a H L S) : ∀ (d p : Nat), p + d = L.length → ∃ pre : List (Nat × PM), (S L.length).chs = pre ++ (S p).chs ∧ (pre = [] → (S L.length).m = (S p).m) ∧ (∀ pre' x, pre = pre' ++ [x] → x.2 = (S p).m)
  | 0, p, h => by
    have : p = L.length := by omega
    subst this
    exact ⟨[], by simp, fun _ => rfl, fun pre' x e => by simp at e⟩
  | d + 1, p, h => by
    have hj : L[p]? = some L[p] := List.getElem?_eq_getElem (by omega)
    obtain ⟨o, v, H1, F⟩ := R.step p _ hj
    obtain ⟨pre, e1, e2, e3⟩ := R.suffix d (p + 1) (by omega)
    rcases F.kind with ⟨_, k1, k2, _⟩ | ⟨_, k1, k2, _⟩
    · exact ⟨pre, by rw [e1, k2], fun h => by rw [e2 h, k1], fun pre' x h => by rw [e3 pre' x h, k1]⟩
    · refine ⟨pre ++ [(L[p], (S p).m)], by rw [e1, k2]; simp, fun h => by simp at h, fun pre' x h => ?_⟩
      have := List.append_inj_right' h rfl
      simp at this
      rw [← this]

theorem Run.memAt_self (R : Run P rec os pn a H L S) {p : Nat} (hp : p ≤ L.length) : memAt L S (S p).chs.length = (S p).m := by
  obtain ⟨pre, e1, e2, e3⟩ := R.suffix (L.length - p) p (by omega)
  unfold memAt
  rw [e1, List.reverse_append, List.getElem?_append_right (by simp)]
  simp only [List.length_reverse, Nat.sub_self]
  cases hpre : pre.reverse with
  | nil =>
    have : pre = [] := by simpa using hpre
    simp [e2 this]
  | cons x l =>
    have : pre = l.reverse ++ [x] := by
      have := congrArg List.reverse hpre
      simpa using this
    simp [e3 _ x this]

theorem Run.memAt_chs (R : Run P rec os pn a H L S) {p : Nat} (hp : p ≤ L.length) {m : Nat} (hm : m < (S p).chs.length) : ∃ x, (S p).chs[(S p).chs.length - 1 - m]? = some x ∧ memAt L S m = x.2 := by
  obtain ⟨pre, e1, _⟩ := R.suffix (L.length - p) p (by omega)
  have hlt : (S p).chs.length - 1 - m < (S p).chs.length := by omega
  refine ⟨(S p).chs[(S p).chs.length - 1 - m], List.getElem?_eq_getElem hlt, ?_⟩
  unfold memAt
  rw [e1, List.reverse_append, List.getElem?_append_left (by simpa using hm), List.getElem?_reverse hm, List.getElem?_eq_getElem hlt]

theorem Run.chs_chief (R : Run P rec os pn a H L S) : ∀ (p : Nat), p ≤ L.length → ∀ (m : Nat) (x : Nat × PM), (S p).chs[m]? = some x → ∃ q o, q < p ∧ L[q]? = some x.1 ∧ os[x.1]? = some o ∧ light P o = false ∧ (S q).chs.length = (S p).chs.length - 1 - m
  | 0, _, m, x, h => by rw [R.start] at h; simp at h
  | p + 1, hp, m, x, h => by
    have hj : L[p]? = some L[p] := List.getElem?_eq_getElem (by omega)
    obtain ⟨o, v, H1, F⟩ := R.step p _ hj
    rcases F.kind with ⟨_, _, k2, _⟩ | ⟨k0, _, k2, _⟩
    · rw [k2] at h ⊢
      obtain ⟨q, o', h1, h2, h3, h4, h5⟩ := R.chs_chief p (by omega) m x h
      exact ⟨q, o', by omega, h2, h3, h4, h5⟩
    · rw [k2] at h ⊢
      cases m with
      | zero =>
        simp at h
        subst h
        exact ⟨p, o, by omega, hj, F.op, k0, by simp⟩
      | succ m =>
        simp only [List.getElem?_cons_succ] at h
        obtain ⟨q, o', h1, h2, h3, h4, h5⟩ := R.chs_chief p (by omega) m x h
        refine ⟨q, o', by omega, h2, h3, h4, ?_⟩
        simp only [List.length_cons]
        omega

theorem Run.mono (R : Run P rec os pn a H L S) : ∀ (d p : Nat), p + d ≤ L.length → (S p).chs.length ≤ (S (p + d)).chs.length
  | 0, p, _ => Nat.le_refl _
  | d + 1, p, h => by
    have hj : L[p + d]? = some L[p + d] := List.getElem?_eq_getElem (by omega)
    obtain ⟨o, v, H1, F⟩ := R.step (p + d) _ hj
    have := R.mono d p (by omega)
    rw [show p + (d + 1) = p + d + 1 by omega]
    rcases F.kind with ⟨_, _, k2, _⟩ | ⟨_, _, k2, _⟩
    · rw [k2]; exact this
    · rw [k2]; simp only [List.length_cons]; omega

/-- the next chief operation behind a place -/
theorem Run.next_chief (R : Run P rec os pn a H L S) : ∀ (d p : Nat), p + d = L.length → (S p).chs.length < (S L.length).chs.length →
    ∃ q j o, p ≤ q ∧ L[q]? = some j ∧ os[j]? = some o ∧ light P o = false ∧ (S q).chs.length = (S p).chs.length ∧ (S q).last = (S p).last
  | 0, p, h, hlt => by
    have : p = L.length := by omega
    subst this
    omega
  | d + 1, p, h, hlt => by
    have hj : L[p]? = some L[p] := List.getElem?_eq_getElem (by omega)
    obtain ⟨o, v, H1, F⟩ := R.step p _ hj
    rcases F.kind with ⟨_, _, k2, k3, _⟩ | ⟨k0, _⟩
    · obtain ⟨q, j, o', h1, h2, h3, h4, h5, h6⟩ := R.next_chief d (p + 1) (by omega) (by rw [k2]; exact hlt)
      exact ⟨q, j, o', by omega, h2, h3, h4, by rw [h5, k2], by rw [h6, k3]⟩
    · exact ⟨p, _, o, Nat.le_refl _, hj, F.op, k0, rfl, rfl⟩

theorem Run.last_done (R : Run P rec os pn a H L S) : ∀ (p : Nat), p ≤ L.length → ∀ i, (S p).last.testBit i = true → (S p).done.testBit i = true
  | 0, _, i, h => by rw [R.start] at h; simp at h
  | p + 1, hp, i, h => by
    have hj : L[p]? = some L[p] := List.getElem?_eq_getElem (by omega)
    obtain ⟨o, v, H1, F⟩ := R.step p _ hj
    rcases F.kind with ⟨_, _, _, k3, _⟩ | ⟨_, _, _, k3, _⟩
    · rw [k3] at h
      rw [F.done, Nat.testBit_or, R.last_done p (by omega) i h]
      rfl
    · rw [k3] at h; exact h

end run

end
end Go.Eng
