/-
  The calculus' operations.
-/
import Derived.Test.YtbcgpjfjfnnlcaaM6
import Derived.Test.YtbcgpjfjfnnlcaaE24
set_option linter.unusedSimpArgs false
set_option linter.unusedVariables false
namespace Go.Eng
noncomputable section
variable {P : Program} {O : Orc}

def PS.upd : PS → Option Tmp → PV → PS
  | s, none, _ => s
  | ⟨tm, n, fr, tk, r0, t0, ms⟩, some d, p => ⟨T.put AH.top tm d p, n, fr, tk, r0, t0, ms⟩
/-- no call of the closure in that temporary is put off -/
def noMs (d : Tmp) : List (Option Tmp) → Bool
  | [] => true
  | none :: l => noMs d l
  | some t :: l => pick (Nat.beq t d) false (noMs d l)
def noMsO (d : Option Tmp) (ms : List (Option Tmp)) : Bool :=
  match d with
  | none => true
  | some d => noMs d ms
def PS.can0 (s : PS) (d : Option Tmp) : Bool :=
  match d with
  | none => true
  | some d => pick (Nat.ble (Nat.succ d) s.n) (Nat.ble s.n (nat_lit 281474976710654)) false
def PS.can (s : PS) (d : Option Tmp) : Bool := pick (noMsO d s.ms) (s.can0 d) false
theorem can_split {s : PS} {d : Option Tmp} (h : s.can d = true) : noMsO d s.ms = true ∧ s.can0 d = true := by
  unfold PS.can at h
  cases h1 : noMsO d s.ms with
  | true => rw [h1] at h; exact ⟨rfl, h⟩
  | false => rw [h1] at h; cases h
def PS.mem (s : PS) (fr : List PRow) (tk : List Nat) : PS := ⟨s.tm, s.n, fr, tk, s.r0, s.t0, s.ms⟩
theorem noMs_ne {d t : Nat} : ∀ {ms : List (Option Tmp)}, noMs d ms = true → some t ∈ ms → t ≠ d
  | [], _, h => by simp at h
  | none :: l, h, hm => by
    rcases List.mem_cons.1 hm with e | hm
    · cases e
    · exact noMs_ne (ms := l) h hm
  | some u :: l, h, hm => by
    simp only [noMs] at h
    cases hb : Nat.beq u d with
    | true => rw [hb] at h; cases h
    | false =>
      rw [hb] at h
      rcases List.mem_cons.1 hm with e | hm
      · cases e
        intro e
        subst e
        rw [Nat.beq_refl] at hb; cases hb
      · exact noMs_ne (ms := l) h hm
theorem MarksR.upd {lo : Nat} {ms : List (Option Tmp)} {a : AAct} {H : AH} {d : Tmp} {v : Value} (h : MarksR lo ms a H) (hd : noMs d ms = true) (hb : d + 1 < 2 ^ 48) : MarksR lo ms (a.upd (some d) v) H := by
  refine ⟨h.rel.imp rfl fun x hx y hy hxy => ?_, h.nd⟩
  cases x with
  | none => cases y <;> exact hxy
  | some t =>
    cases y with
    | mark m => exact hxy
    | call f vs =>
      obtain ⟨first, cap, h1, h2⟩ := hxy
      refine ⟨first, cap, ?_, h2⟩
      show (T.put AH.top a.tm d v).get t = _
      rw [show (T.put AH.top a.tm d v).get t = if t = d then some v else a.tm.get t from T.get_put 48 _ _ _ _ hb, if_neg (noMs_ne hd hx)]
      exact h1

theorem RelA.can {C : Ctx} {e : Env} {s : PS} {a : AAct} {H : AH} (hR : RelA C e s a H) {d : Option Tmp} (h : s.can d = true) : a.can d = true := by
  cases d with
  | none => rfl
  | some d => replace h := (can_split h).2; simp only [PS.can0] at h; simp only [AAct.can, hR.n]; exact h

theorem RelA.upd {C : Ctx} {e e' : Env} {s : PS} {a : AAct} {H H' : AH} {fr' : List PRow} {tk' : List Nat} (hR : RelA C e s a H) {d : Option Tmp} (hc : s.can d = true) {p : PV} {v : Value} (st : Step e s.tk H e' fr' tk' H') (hv : RV e' tk' H' true p v) : RelA C e' ((s.mem fr' tk').upd d p) (a.upd d v) H' := by
  have g := st.grow hR.h.inv
  have hh := hR.h.step st
  have hmk := hR.marks.step (H' := H') (fun m hm => st.other hR.h.inv hm (fun r e => by cases e) (fun _ _ e => by cases e))
  obtain ⟨tm, n, fr, tk, r0, t0, ms⟩ := s
  cases d with
  | none => exact ⟨hh, hR.n, hmk, hR.r0, hR.t0, fun t q ht => let ⟨w, h1, h2⟩ := hR.tm t q ht; ⟨w, h1, h2.grow g⟩⟩
  | some d =>
    have hd : d + 1 < 2 ^ 48 := by
      replace hc := (can_split hc).2
      simp only [PS.can0] at hc
      cases h1 : Nat.ble (Nat.succ d) n with
      | false => rw [h1] at hc; cases hc
      | true =>
        rw [h1] at hc
        have h2 : Nat.ble n 281474976710654 = true := hc
        rw [Nat.ble_eq] at h1 h2
        exact Nat.lt_of_le_of_lt (Nat.le_trans h1 h2) (by decide)
    have hp : ∀ {α : Type} (t : T α) (x : α) (j : Nat), (T.put AH.top t d x).get j = if j = d then some x else t.get j := fun t x j => T.get_put 48 _ _ _ _ hd
    refine ⟨hh, hR.n, hmk.upd (can_split hc).1 hd, hR.r0, hR.t0, fun t q ht => ?_⟩
    have ht' : (T.put AH.top tm d p).get t = some q := ht
    rw [hp] at ht'
    show ∃ w, (T.put AH.top a.tm d v).get t = some w ∧ _
    rw [hp]
    split at ht'
    · rename_i e1
      cases ht'
      exact ⟨v, by rw [if_pos e1], hv⟩
    · rename_i e1
      obtain ⟨w, h1, h2⟩ := hR.tm t q ht'
      exact ⟨w, by rw [if_neg e1]; exact h1, h2.grow g⟩

/-- what an operation comes to -/
def OpOK (P : Program) (O : Orc) (s : PS) (o : Oper) (p : PV) (fr' : List PRow) (tk' : List Nat) : Prop :=
  deferOf o.op = none ∧ ∀ C e a H, RelA C e s a H → ∃ n v H' e', aOp P (oRun P O n) a H o = .ok (v, H') ∧ Step e s.tk H e' fr' tk' H' ∧ RV e' tk' H' true p v

section ops
variable {rnd : Option Nat} {all os : List Oper} {s : PS} {Q : PS → Prop}

def pWanted (all : List Oper) (s : PS) (o : Oper) : Option Bool :=
  match o.guard with
  | none => some true
  | some (j, w) => match (all[j]?).bind (·.dst) with
    | some d => pick (Nat.ble (Nat.succ d) s.n) (match s.tm.get d with
      | some (.val (.bool b)) => some (b == w)
      | some (.tup _) => some false
      | _ => none) none
    | none => none

theorem RelA.wanted {C : Ctx} {e : Env} {a : AAct} {H : AH} (hR : RelA C e s a H) {o : Oper} {b : Bool} (h : pWanted all s o = some b) : aWanted all a o = .ok b := by
  unfold pWanted at h
  cases hg : o.guard with
  | none => rw [hg] at h; cases h; exact wanted_free hg
  | some jw =>
    obtain ⟨j, w⟩ := jw
    rw [hg] at h
    simp only at h
    cases hd : (all[j]?).bind (·.dst) with
    | none => rw [hd] at h; cases h
    | some d =>
      rw [hd] at h
      obtain ⟨hl, h⟩ := pick_some h
      cases ht : s.tm.get d with
      | none => rw [ht] at h; cases h
      | some p =>
        rw [ht] at h
        obtain ⟨v, h1, h2⟩ := hR.tm d p ht
        cases p with
        | val u =>
          cases u with
          | bool c =>
            cases h
            rw [h2.bool_inv] at h1
            exact wanted_when hg hd (by rw [hR.n]; exact hl) h1
          | _ => cases h
        | tup l =>
          cases h
          cases h2 with
          | tup hl' hh =>
            unfold aWanted
            rw [hg]
            simp only [hd]
            rw [Nat.ble_eq] at hl
            rw [if_pos (show d < a.n by rw [hR.n]; exact hl), h1]
        | _ => cases h

theorem PO.nil (h : Q s) : PO P O rnd all [] s Q := fun C e a H hR => WO.nil ⟨e, s, hR, h⟩

theorem PO.one {o : Oper} {p : PV} {fr' : List PRow} {tk' : List Nat} (hw : pWanted all s o = some true) (ho : OpOK P O s o p fr' tk') (hc : s.can o.dst = true) (h : PO P O rnd all os ((s.mem fr' tk').upd o.dst p) Q) : PO P O rnd all (o :: os) s Q := fun C e a H hR => by
  obtain ⟨hd, ho⟩ := ho
  obtain ⟨n, v, H', e', h1, h2, h3⟩ := ho C e a H hR
  exact WO.one (hR.wanted hw) hd ⟨n, h1⟩ (hR.can hc) (h C e' _ H' (hR.upd hc h2 h3))

/-- one that leaves the memory as it is -/
def OpSame (P : Program) (O : Orc) (s : PS) (o : Oper) (p : PV) : Prop :=
  deferOf o.op = none ∧ ∀ C e a H, RelA C e s a H → ∃ n v, aOp P (oRun P O n) a H o = .ok (v, H) ∧ RV e s.tk H true p v
theorem OpSame.ok {o : Oper} {p : PV} (h : OpSame P O s o p) : OpOK P O s o p s.fr s.tk :=
  ⟨h.1, fun C e a H hR => let ⟨n, v, h1, h2⟩ := h.2 C e a H hR; ⟨n, v, H, e, h1, Step.refl hR.h.inv, h2⟩⟩
theorem PO.same {o : Oper} {p : PV} (hw : pWanted all s o = some true) (ho : OpSame P O s o p) (hc : s.can o.dst = true) (h : PO P O rnd all os (s.upd o.dst p) Q) : PO P O rnd all (o :: os) s Q := PO.one hw ho.ok hc h

theorem RelA.refl {C : Ctx} {e : Env} {a : AAct} {H : AH} (hR : RelA C e s a H) : Step e s.tk H e s.fr s.tk H := Step.refl hR.h.inv
theorem rv_undef {e : Env} {tk : List Nat} {H : AH} : RV e tk H true (.tup []) undef := .tup (vs := []) rfl (fun i p v hi => by simp at hi)

theorem PO.not {o : Oper} (hw : pWanted all s o = some false) (hc : s.can o.dst = true) (h : PO P O rnd all os (s.upd o.dst (.tup [])) Q) : PO P O rnd all (o :: os) s Q := fun C e a H hR =>
  WO.not (hR.wanted hw) (hR.can hc) (h C e _ H (hR.upd hc hR.refl rv_undef))

/-! ### Operations that leave the memory as it is -/
def evs (s : PS) : List Operand → Option (List PV)
  | [] => some []
  | o :: os => match s.ev o with
    | some p => match evs s os with
      | some ps => some (p :: ps)
      | none => none
    | none => none

theorem RelA.evs {C : Ctx} {e : Env} {a : AAct} {H : AH} (hR : RelA C e s a H) : ∀ {os : List Operand} {ps : List PV}, Go.Eng.evs s os = some ps → ∃ vs, allR a.eval os = .ok vs ∧ L2 (RV e s.tk H true) ps vs
  | [], ps, h => by cases h; exact ⟨[], rfl, L2.nil⟩
  | o :: os, ps, h => by
    simp only [Go.Eng.evs] at h
    cases hp : s.ev o with
    | none => rw [hp] at h; cases h
    | some p =>
      rw [hp] at h
      cases hq : Go.Eng.evs s os with
      | none => rw [hq] at h; cases h
      | some qs =>
        rw [hq] at h; cases h
        obtain ⟨v, h1, h2⟩ := hR.ev hp
        obtain ⟨vs, h3, h4⟩ := hR.evs hq
        exact ⟨v :: vs, allR_cons (AAct.ev_eval h1) h3, L2.cons h2 h4⟩

def valsOf : List PV → Option (List Value)
  | [] => some []
  | .val v :: l => match valsOf l with
    | some vs => some (v :: vs)
    | none => none
  | _ :: _ => none

theorem valsOf_rv {e : Env} {tk : List Nat} {H : AH} {b : Bool} : ∀ {l : List PV} {us vs : List Value}, valsOf l = some us → L2 (RV e tk H b) l vs → us = vs
  | [], us, vs, h, h2 => by cases h; exact h2.cases_nil.symm
  | p :: l, us, vs, h, h2 => by
    obtain ⟨v, m, rfl, h3, h4⟩ := h2.cases_cons
    cases p with
    | val u =>
      simp only [valsOf] at h
      cases hu : valsOf l with
      | none => rw [hu] at h; cases h
      | some ws => rw [hu] at h; cases h; rw [h3.bool_inv, valsOf_rv hu h4]
    | _ => cases h

/-- a value that is known whole -/
def PV.known : PV → Option Value
  | .val v => some v
  | .agg l => match valsOf l with
    | some vs => some (.agg vs.toArray)
    | none => none
  | _ => none

theorem RV.known {e : Env} {tk : List Nat} {H : AH} {b : Bool} {p : PV} {u v : Value} (h : RV e tk H b p v) (hk : p.known = some u) : v = u := by
  cases p with
  | val w => cases hk; exact h.bool_inv
  | agg l =>
    cases h with
    | @agg _ _ vs hl hh =>
      simp only [PV.known] at hk
      cases hw : valsOf l with
      | none => rw [hw] at hk; cases hk
      | some ws => rw [hw] at hk; cases hk; rw [valsOf_rv hw (vs := vs) ⟨hl, hh⟩]
  | _ => cases hk

def okV : R Value → Option PV
  | .ok (.agg _) => none
  | .ok (.tuple _) => none
  | .ok v => some (.val v)
  | .error _ => none

theorem okV_rv {x : R Value} {p : PV} (h : okV x = some p) {e : Env} {tk : List Nat} {H : AH} : ∃ v, x = .ok v ∧ RV e tk H true p v := by
  cases x with
  | error n => cases h
  | ok v => cases v <;> first | (cases h; exact ⟨_, rfl, .val rfl⟩) | (cases h)

/-- two values, by a binary operation -/
def pBin (P : Program) (op : BinOp) (t : TypeId) (x y : Operand) : PV → PV → Option PV
  | .val (.int k m), .val (.int j n) => pick (k == j) (match binV op k m n with
    | some v => okV (.ok v)
    | none => okV (aBin P op t x y (.int k m) (.int j n))) (okV (aBin P op t x y (.int k m) (.int j n)))
  | .val u, .val w => pick (bothPtr u w) none (okV (aBin P op t x y u w))
  | .agg l, .agg m => match valsOf l, valsOf m with
    | some us, some ws => okV (aBin P op t x y (.agg us.toArray) (.agg ws.toArray))
    | _, _ => none
  | _, _ => none

theorem pBin_ok {op : BinOp} {t : TypeId} {x y : Operand} {p q r : PV} (h : pBin P op t x y p q = some r) {e : Env} {tk : List Nat} {H : AH} {u w : Value} (hu : RV e tk H true p u) (hw : RV e tk H true q w) :
    ∃ v, (if bothPtr u w then aPtr P H op t u w else aBin P op t x y u w) = .ok v ∧ RV e tk H true r v := by
  have key : ∀ u w, bothPtr u w = false → okV (aBin P op t x y u w) = some r → ∃ v, (if bothPtr u w then aPtr P H op t u w else aBin P op t x y u w) = .ok v ∧ RV e tk H true r v := fun u w hb ho => by
    obtain ⟨v, h1, h2⟩ := okV_rv (e := e) (tk := tk) (H := H) ho
    exact ⟨v, by rw [hb]; exact h1, h2⟩
  cases p with
  | val u' =>
    have e1 := hu.bool_inv; subst e1
    cases q with
    | val w' =>
      have e2 := hw.bool_inv; subst e2
      have gen : pick (bothPtr u w) none (okV (aBin P op t x y u w)) = some r → ∃ v, (if bothPtr u w then aPtr P H op t u w else aBin P op t x y u w) = .ok v ∧ RV e tk H true r v := fun h => by
        cases hb : bothPtr u w with
        | true => rw [hb] at h; cases h
        | false => rw [hb] at h; have := key u w hb h; rw [hb] at this; exact this
      cases u with
      | int k m =>
        cases w with
        | int j n =>
          simp only [pBin] at h
          cases hk : (k == j) with
          | false => rw [hk] at h; exact key _ _ rfl h
          | true =>
            rw [hk] at h
            have : k = j := by simpa using hk
            subst this
            have h' : (match binV op k m n with
              | some v => okV (.ok v)
              | none => okV (aBin P op t x y (.int k m) (.int k n))) = some r := h
            cases hv : binV op k m n with
            | none => rw [hv] at h'; exact key _ _ rfl h'
            | some v =>
              rw [hv] at h'
              obtain ⟨v', h1, h2⟩ := okV_rv (e := e) (tk := tk) (H := H) h'
              cases h1
              exact ⟨v, by simp only [bothPtr, Bool.false_eq_true, if_false, aBin, binV_ok hv], h2⟩
        | _ => exact gen h
      | _ => exact gen h
    | _ => cases u <;> cases h
  | agg l =>
    cases q with
    | agg m =>
      simp only [pBin] at h
      cases hl : valsOf l with
      | none => rw [hl] at h; cases h
      | some us =>
        cases hm : valsOf m with
        | none => rw [hl, hm] at h; cases h
        | some ws =>
          rw [hl, hm] at h
          rw [hu.known (u := .agg us.toArray) (by simp only [PV.known, hl]), hw.known (u := .agg ws.toArray) (by simp only [PV.known, hm])]
          exact key _ _ rfl h
    | _ => cases h
  | _ => cases q <;> cases h

/-- a part of a struct -/
def pPart (P : Program) (t : TypeId) (l : List PV) (off : Nat) : Option PV :=
  match tAgg P t with
  | .ok true => match tSize P t with
    | .ok n => pick (Nat.ble (off + n) l.length) (some (.agg ((l.drop off).take n))) none
    | _ => none
  | .ok false => l[off]?
  | _ => none

theorem pPart_ok {t : TypeId} {l : List PV} {vs : List Value} {off : Nat} {p : PV} (h : pPart P t l off = some p) {e : Env} {tk : List Nat} {H : AH} (hl : L2 (RV e tk H true) l vs) : ∃ v, partAt' P t vs off = .ok v ∧ RV e tk H true p v := by
  unfold pPart at h
  unfold partAt'
  cases ha : tAgg P t with
  | error n => rw [ha] at h; cases h
  | ok b =>
    rw [ha] at h
    cases b with
    | true =>
      cases hn : tSize P t with
      | error n => rw [hn] at h; cases h
      | ok n =>
        rw [hn] at h
        obtain ⟨hle, h⟩ := pick_some h
        cases h
        rw [Nat.ble_eq, hl.1] at hle
        simp only [bind, Except.bind, if_true, if_pos hle]
        have := (hl.drop off).take n
        exact ⟨_, rfl, .agg this.1 this.2⟩
    | false =>
      obtain ⟨v, h1, h2⟩ := hl.at h
      simp only [bind, Except.bind, Bool.false_eq_true, if_false, h1]
      exact ⟨v, rfl, h2⟩

def fieldOf (P : Program) (t : TypeId) (f : Nat) : Option Field :=
  match P.underlying t with
  | some (.struct fs) => fs[f]?
  | _ => none

def pPick : PV → PV → PV → Option PV
  | .val (.bool b), p, q => match b with
    | true => some p
    | false => some q
  | _, _, _ => none

def notIface (P : Program) (t : TypeId) : Bool :=
  match P.underlying t with
  | some (.interface _) => false
  | some _ => true
  | none => false

theorem notIface_ok {t : TypeId} (h : notIface P t = true) : ∃ D, P.underlying t = some D ∧ ∀ m, D ≠ .interface m := by
  unfold notIface at h
  cases ht : P.underlying t with
  | none => rw [ht] at h; cases h
  | some D => exact ⟨D, rfl, fun m e => by subst e; rw [ht] at h; cases h⟩

/-- an operation that leaves the memory as it is -/
def pPure (P : Program) (s : PS) : Op → Option PV
  | .move x => s.ev x
  | .assign x => s.ev x
  | .nilCheck x => match s.ev x with
    | some (.ptr k off) => some (.ptr k off)
    | some (.eptr c off) => some (.eptr c off)
    | some (.fn f l m) => some (.fn f l m)
    | _ => none
  | .binOp op t x y _ => match s.ev x, s.ev y with
    | some p, some q => pBin P op t x y p q
    | _, _ => none
  | .unOp op _ x => match s.ev x with
    | some (.val (.bool b)) => (match op with
      | .not => some (.val (.bool !b))
      | _ => none)
    | some (.val (.int k n)) => okV (gOnly (pureRun P 0 (Op.unary op (.int k n))))
    | _ => none
  | .convert a b x => match s.ev x with
    | some (.val (.int k n)) => okV (gOnly (pureRun P 20 (Go.convert a b (.int k n))))
    | _ => none
  | .makeInterface t x => match P.underlying t with
    | some (.interface _) => none
    | some _ => (match s.ev x with
      | some p => some (.iface t p)
      | none => none)
    | none => none
  | .makeFunc (.func f) first cap => match evs s first.toList, evs s cap.toList with
    | some l, some m => some (.fn f l m)
    | _, _ => none
  | .fieldAddr t x f => match fieldOf P t f with
    | some fd => (match tSize P fd.type with
      | .ok n => pick (Nat.beq n 0) none (match s.ev x with
        | some (.ptr k off) => some (.ptr k (off + fd.offset))
        | some (.eptr c off) => some (.eptr c (off + fd.offset))
        | _ => none)
      | _ => none)
    | none => none
  | .field t x f => match fieldOf P t f with
    | some fd => (match s.ev x with
      | some (.agg l) => pPart P fd.type l fd.offset
      | _ => none)
    | none => none
  | .extract x i => match s.ev x with
    | some (.tup l) => l[i]?
    | _ => none
  | .load t x => match s.ev x with
    | some p => pLoad P s.fr t p
    | none => none
  | .call { callee := .builtin .max, args := xs, argTypes := _ } => match evs s xs.toList with
    | some [.val (.int k m), .val (.int j n)] => pick (k == j) (some (.val (.int k (if n > m then n else m)))) none
    | _ => none
  | .call { callee := .builtin .min, args := xs, argTypes := _ } => match evs s xs.toList with
    | some [.val (.int k m), .val (.int j n)] => pick (k == j) (some (.val (.int k (if n < m then n else m)))) none
    | _ => none
  | .typeAssert x _ t ok => pick (notIface P t) (match s.ev x with
      | some (.iface u p) => pick (Nat.beq u t) (some (match ok with | true => .tup [p, .val (.bool true)] | false => p)) none
      | _ => none) none
  | _ => none

theorem pPure_core {o : Oper} {p : PV} (h : pPure P s o.op = some p) : deferOf o.op = none ∧ (∀ C e a H, RelA C e s a H → ∃ v, aOp P (oRun P O 0) a H o = .ok (v, H) ∧ RV e s.tk H true p v) := by
  obtain ⟨d, op, ty, ps, af, gu⟩ := o
  simp only at h
  have mk : deferOf op = none → (∀ C e a H, RelA C e s a H → ∃ v, aOp P (oRun P O 0) a H ⟨d, op, ty, ps, af, gu⟩ = .ok (v, H) ∧ RV e s.tk H true p v) → deferOf op = none ∧ (∀ C e a H, RelA C e s a H → ∃ v, aOp P (oRun P O 0) a H ⟨d, op, ty, ps, af, gu⟩ = .ok (v, H) ∧ RV e s.tk H true p v) := fun h1 h2 => ⟨h1, h2⟩
  cases op with
  | move x =>
    refine mk rfl fun C e a H hR => ?_
    obtain ⟨v, h1, h2⟩ := hR.ev h
    exact ⟨v, by simp only [aOp, AAct.ev_eval h1]; rfl, h2⟩
  | assign x =>
    refine mk rfl fun C e a H hR => ?_
    obtain ⟨v, h1, h2⟩ := hR.ev h
    exact ⟨v, by simp only [aOp, AAct.ev_eval h1]; rfl, h2⟩
  | nilCheck x =>
    refine mk rfl fun C e a H hR => ?_
    simp only [pPure] at h
    cases hx : s.ev x with
    | none => rw [hx] at h; cases h
    | some q =>
      rw [hx] at h
      obtain ⟨v, h1, h2⟩ := hR.ev hx
      refine ⟨v, ?_, ?_⟩
      · simp only [aOp, AAct.ev_eval h1, bind, Except.bind]
        cases q <;> first | (cases h; done) | (cases h2 <;> rfl)
      · cases q <;> first | (cases h; done) | (cases h; exact h2)
  | binOp op t x y t2 =>
    refine mk rfl fun C e a H hR => ?_
    simp only [pPure] at h
    cases hx : s.ev x with
    | none => rw [hx] at h; cases h
    | some q =>
      cases hy : s.ev y with
      | none => rw [hx, hy] at h; cases h
      | some r =>
        rw [hx, hy] at h
        obtain ⟨u, h1, h2⟩ := hR.ev hx
        obtain ⟨w, h3, h4⟩ := hR.ev hy
        obtain ⟨v, k1, k2⟩ := pBin_ok h h2 h4
        refine ⟨v, ?_, k2⟩
        simp only [aOp, AAct.ev_eval h1, AAct.ev_eval h3, bind, Except.bind]
        split at k1
        · rename_i hb; simp only [hb, if_true, k1]
        · rename_i hb; simp only [hb, if_false, k1]
          rfl
  | unOp op t x =>
    refine mk rfl fun C e a H hR => ?_
    simp only [pPure] at h
    cases hx : s.ev x with
    | none => rw [hx] at h; cases h
    | some q =>
      rw [hx] at h
      obtain ⟨u, h1, h2⟩ := hR.ev hx
      cases q with
      | val w =>
        have e1 := h2.bool_inv; subst e1
        cases u with
        | bool b =>
          cases op <;> first | (cases h; done) | skip
          cases h
          refine ⟨.bool !b, ?_, .val rfl⟩
          simp only [aOp, AAct.ev_eval h1, bind, Except.bind]; rfl
        | int k n =>
          obtain ⟨v, k1, k2⟩ := okV_rv (e := e) (tk := s.tk) (H := H) h
          exact ⟨v, by simp only [aOp, AAct.ev_eval h1, bind, Except.bind, k1], k2⟩
        | _ => cases h
      | _ => cases h
  | convert c b x =>
    refine mk rfl fun C e a H hR => ?_
    simp only [pPure] at h
    cases hx : s.ev x with
    | none => rw [hx] at h; cases h
    | some q =>
      rw [hx] at h
      obtain ⟨u, h1, h2⟩ := hR.ev hx
      cases q with
      | val w =>
        have e1 := h2.bool_inv; subst e1
        cases u with
        | int k n =>
          obtain ⟨v, k1, k2⟩ := okV_rv (e := e) (tk := s.tk) (H := H) h
          exact ⟨v, by simp only [aOp, AAct.ev_eval h1, bind, Except.bind, aConvert, k1], k2⟩
        | _ => cases h
      | _ => cases h
  | makeInterface t x =>
    refine mk rfl fun C e a H hR => ?_
    simp only [pPure] at h
    cases ht : P.underlying t with
    | none => rw [ht] at h; cases h
    | some D =>
      rw [ht] at h
      cases hx : s.ev x with
      | none => rw [hx] at h; cases D <;> cases h
      | some q =>
        rw [hx] at h
        obtain ⟨u, h1, h2⟩ := hR.ev hx
        refine ⟨.iface t u, ?_, ?_⟩
        · simp only [aOp, ht]
          cases D <;> first | (cases h; done) | (simp only [AAct.ev_eval h1, bind, Except.bind])
        · cases D <;> first | (cases h; done) | (cases h; exact .iface h2)
  | makeFunc fn first cap =>
    refine mk rfl fun C e a H hR => ?_
    cases fn with
    | func f =>
      simp only [pPure] at h
      cases h1 : evs s first.toList with
      | none => rw [h1] at h; cases h
      | some l =>
        cases h2 : evs s cap.toList with
        | none => rw [h1, h2] at h; cases h
        | some m =>
          rw [h1, h2] at h; cases h
          obtain ⟨vs, k1, k2⟩ := hR.evs h1
          obtain ⟨ws, k3, k4⟩ := hR.evs h2
          exact ⟨.func (.func f) vs.toArray ws.toArray, by simp only [aOp, k1, k3, bind, Except.bind], .fn k2.1 k2.2 k4.1 k4.2⟩
    | _ => cases h
  | fieldAddr t x f =>
    refine mk rfl fun C e a H hR => ?_
    simp only [pPure, fieldOf] at h
    cases ht : P.underlying t with
    | none => rw [ht] at h; cases h
    | some D =>
      rw [ht] at h
      cases D with
      | struct fs =>
        simp only at h
        cases hf : fs[f]? with
        | none => rw [hf] at h; cases h
        | some fd =>
          rw [hf] at h
          simp only at h
          cases hn : tSize P fd.type with
          | error n => rw [hn] at h; cases h
          | ok n =>
            rw [hn] at h
            simp only at h
            cases hz : Nat.beq n 0 with
            | true => rw [hz] at h; cases h
            | false =>
              rw [hz] at h
              have hn0 : ¬ n = 0 := fun e => by subst e; cases hz
              have h' : (match s.ev x with
                | some (.ptr k off) => some (PV.ptr k (off + fd.offset))
                | some (.eptr c off) => some (.eptr c (off + fd.offset))
                | _ => none) = some p := h
              cases hx : s.ev x with
              | none => rw [hx] at h'; cases h'
              | some q =>
                rw [hx] at h'
                obtain ⟨u, h1, h2⟩ := hR.ev hx
                cases q with
                | ptr k off =>
                  cases h'
                  cases h2 with
                  | @ptr _ _ id hk =>
                    exact ⟨.pointer (some ⟨id, off + fd.offset, none⟩), by simp only [aOp, ht, hf, hn, AAct.ev_eval h1, bind, Except.bind, addrOf, if_neg hn0], .ptr hk⟩
                | eptr c off =>
                  cases h'
                  cases h2 with
                  | @eptr _ _ _ id base m r w hr hm hs hv hh =>
                    refine ⟨.pointer (some ⟨id, base + off + fd.offset, none⟩), by simp only [aOp, ht, hf, hn, AAct.ev_eval h1, bind, Except.bind, addrOf, if_neg hn0], ?_⟩
                    rw [Nat.add_assoc]
                    exact .eptr w hr hm hs hv hh
                | _ => cases h'
      | _ => cases h
  | field t x f =>
    refine mk rfl fun C e a H hR => ?_
    simp only [pPure, fieldOf] at h
    cases ht : P.underlying t with
    | none => rw [ht] at h; cases h
    | some D =>
      rw [ht] at h
      cases D with
      | struct fs =>
        simp only at h
        cases hf : fs[f]? with
        | none => rw [hf] at h; cases h
        | some fd =>
          rw [hf] at h
          simp only at h
          cases hx : s.ev x with
          | none => rw [hx] at h; cases h
          | some q =>
            rw [hx] at h
            obtain ⟨u, h1, h2⟩ := hR.ev hx
            cases q with
            | agg l =>
              cases h2 with
              | @agg _ _ vs hl hh =>
                obtain ⟨v, k1, k2⟩ := pPart_ok h (vs := vs) ⟨hl, hh⟩
                exact ⟨v, by simp only [aOp, ht, hf, AAct.ev_eval h1, bind, Except.bind, k1], k2⟩
            | _ => cases h
      | _ => cases h
  | extract x i =>
    refine mk rfl fun C e a H hR => ?_
    simp only [pPure] at h
    cases hx : s.ev x with
    | none => rw [hx] at h; cases h
    | some q =>
      rw [hx] at h
      obtain ⟨u, h1, h2⟩ := hR.ev hx
      cases q with
      | tup l =>
        cases h2 with
        | @tup _ _ vs hl hh =>
          obtain ⟨v, k1, k2⟩ := (show L2 (RV e s.tk H true) l vs from ⟨hl, hh⟩).at h
          exact ⟨v, by simp only [aOp, AAct.ev_eval h1, bind, Except.bind, k1], k2⟩
      | _ => cases h
  | load t x =>
    refine mk rfl fun C e a H hR => ?_
    simp only [pPure] at h
    cases hx : s.ev x with
    | none => rw [hx] at h; cases h
    | some q =>
      rw [hx] at h
      obtain ⟨u, h1, h2⟩ := hR.ev hx
      obtain ⟨id, off, v, k1, k2, k3⟩ := hR.load h2 h
      exact ⟨v, by simp only [aOp, AAct.ev_eval h1, bind, Except.bind, k1, k2], k3⟩
  | call c =>
    obtain ⟨cal, xs, ts⟩ := c
    cases cal with
    | builtin b =>
      refine mk rfl fun C e a H hR => ?_
      cases b with
      | max =>
        simp only [pPure] at h
        cases hx : evs s xs.toList with
        | none => rw [hx] at h; cases h
        | some l =>
          rw [hx] at h
          obtain ⟨vs, h1, h2⟩ := hR.evs hx
          rcases l with _ | ⟨q, _ | ⟨r, _ | ⟨r', l⟩⟩⟩
          · cases h
          · simp only at h; cases h
          · obtain ⟨v1, m1, rfl, k1, k2⟩ := h2.cases_cons
            obtain ⟨v2, m2, rfl, k3, k4⟩ := k2.cases_cons
            have := k4.cases_nil; subst this
            cases q with
            | val u =>
              cases r with
              | val w =>
                have e1 := k1.bool_inv; subst e1
                have e2 := k3.bool_inv; subst e2
                cases v1 <;> cases v2 <;> first | (simp only at h; cases h; done) | skip
                rename_i k m j n
                simp only at h
                obtain ⟨hk, hq⟩ := pick_some h
                have : k = j := by simpa using hk
                subst this
                cases hq
                refine ⟨.int k (if n > m then n else m), ?_, .val rfl⟩
                simp only [aOp, h1, bind, Except.bind]
                rfl
              | _ => simp only at h; cases h
            | _ => simp only at h; cases h
          · simp only at h; cases h
      | min =>
        simp only [pPure] at h
        cases hx : evs s xs.toList with
        | none => rw [hx] at h; cases h
        | some l =>
          rw [hx] at h
          obtain ⟨vs, h1, h2⟩ := hR.evs hx
          rcases l with _ | ⟨q, _ | ⟨r, _ | ⟨r', l⟩⟩⟩
          · cases h
          · simp only at h; cases h
          · obtain ⟨v1, m1, rfl, k1, k2⟩ := h2.cases_cons
            obtain ⟨v2, m2, rfl, k3, k4⟩ := k2.cases_cons
            have := k4.cases_nil; subst this
            cases q with
            | val u =>
              cases r with
              | val w =>
                have e1 := k1.bool_inv; subst e1
                have e2 := k3.bool_inv; subst e2
                cases v1 <;> cases v2 <;> first | (simp only at h; cases h; done) | skip
                rename_i k m j n
                simp only at h
                obtain ⟨hk, hq⟩ := pick_some h
                have : k = j := by simpa using hk
                subst this
                cases hq
                refine ⟨.int k (if n < m then n else m), ?_, .val rfl⟩
                simp only [aOp, h1, bind, Except.bind]
                rfl
              | _ => simp only at h; cases h
            | _ => simp only at h; cases h
          · simp only at h; cases h
      | _ => cases h
    | _ => cases h
  | typeAssert x t0 t ok =>
    refine mk rfl fun C e a H hR => ?_
    simp only [pPure] at h
    obtain ⟨hn, h'⟩ := pick_some h
    obtain ⟨D, ht, hif⟩ := notIface_ok hn
    cases hx : s.ev x with
    | none => rw [hx] at h'; cases h'
    | some q =>
      rw [hx] at h'
      obtain ⟨u, h1, h2⟩ := hR.ev hx
      cases q with
      | iface t' q =>
        obtain ⟨hb, h4⟩ := pick_some h'
        have e1 : t' = t := Nat.eq_of_beq_eq_true hb
        subst e1
        cases h2 with
        | @iface _ _ _ v h2 =>
          cases ok with
          | true =>
            cases h4
            refine ⟨.tuple #[v, .bool true], ?_, ?_⟩
            · simp only [aOp, AAct.ev_eval h1, bind, Except.bind, aTypeAssert, ht]
              cases D <;> first | exact absurd rfl (hif _) | simp
            · have := L2.cons h2 (L2.cons (RV.val (e := e) (tk := s.tk) (H := H) (b := true) (v := .bool true) rfl) L2.nil)
              exact .tup this.1 this.2
          | false =>
            cases h4
            refine ⟨v, ?_, h2⟩
            simp only [aOp, AAct.ev_eval h1, bind, Except.bind, aTypeAssert, ht]
            cases D <;> first | exact absurd rfl (hif _) | simp
      | _ => cases h'
  | _ => cases h

theorem pPure_ok {o : Oper} {p : PV} (h : pPure P s o.op = some p) : OpOK P O s o p s.fr s.tk :=
  let ⟨h1, h2⟩ := pPure_core (O := O) h
  ⟨h1, fun C e a H hR => let ⟨v, k1, k2⟩ := h2 C e a H hR; ⟨0, v, H, e, k1, hR.refl, k2⟩⟩

end ops
end
end Go.Eng
