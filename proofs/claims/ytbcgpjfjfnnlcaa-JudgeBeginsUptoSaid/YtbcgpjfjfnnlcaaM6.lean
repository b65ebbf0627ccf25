/-
  A calculus over values without a place: code, operations, calls.
-/
import Derived.Test.YtbcgpjfjfnnlcaaM5
import Derived.Test.YtbcgpjfjfnnlcaaE24
set_option linter.unusedSimpArgs false
set_option linter.unusedVariables false
namespace Go.Eng
noncomputable section
variable {P : Program} {O : Orc}

structure PS where
  tm : T PV
  n : Nat
  fr : List PRow
  tk : List Nat
  r0 : Nat
  t0 : Nat
  ms : List (Option Tmp)

/-- what an activation has put off: marks of loops over functions, calls of closures (in temporaries) -/
def MarkR (lo : Nat) (a : AAct) (H : AH) : Option Tmp → ADef → Prop
  | none, .mark m => lo ≤ m ∧ H.get m = some (.mark true)
  | some t, .call f vs => ∃ first cap, a.tm.get t = some (.func (.func f) first cap) ∧ vs = first.toList ++ cap.toList
  | _, _ => False
/-- 'none' alone: any number of marks -/
def MarksL (lo : Nat) (a : AAct) (H : AH) : List (Option Tmp) → Prop
  | [none] => ∀ d ∈ a.marks, MarkR lo a H none d
  | ms => L2 (MarkR lo a H) ms a.marks
theorem MarksL.imp {lo : Nat} {a a' : AAct} {H H' : AH} {ms : List (Option Tmp)} (h : MarksL lo a H ms) (hm : a'.marks = a.marks) (hi : ∀ x ∈ ms, ∀ d ∈ a.marks, MarkR lo a H x d → MarkR lo a' H' x d) : MarksL lo a' H' ms := by
  have main : L2 (MarkR lo a H) ms a.marks → L2 (MarkR lo a' H') ms a'.marks := fun h => by
    rw [hm]
    exact ⟨h.1, fun i x y hx hy => hi x (List.mem_of_getElem? hx) y (List.mem_of_getElem? hy) (h.2 i x y hx hy)⟩
  unfold MarksL at h ⊢
  split at h
  · intro d hd
    rw [hm] at hd
    exact hi none List.mem_cons_self d hd (h d hd)
  · exact main h
structure MarksR (lo : Nat) (ms : List (Option Tmp)) (a : AAct) (H : AH) : Prop where
  rel : MarksL lo a H ms
  nd : ∀ (i j m : Nat), a.marks[i]? = some (.mark m) → a.marks[j]? = some (.mark m) → i = j
theorem MarksR.nil {lo : Nat} {a : AAct} {H : AH} (h : a.marks = []) : MarksR lo [] a H := ⟨by show L2 _ _ _; rw [h]; exact L2.nil, fun i j m hi => by rw [h] at hi; simp at hi⟩
theorem MarksR.any {lo : Nat} {a : AAct} {H : AH} (h : a.marks = []) : MarksR lo [none] a H := ⟨fun d hd => by rw [h] at hd; simp at hd, fun i j m hi => by rw [h] at hi; simp at hi⟩
theorem MarksR.none {lo : Nat} {a : AAct} {H : AH} (h : MarksR lo [] a H) : a.marks = [] := L2.cases_nil (R := MarkR lo a H) h.rel
theorem MarksR.step {lo : Nat} {ms : List (Option Tmp)} {a : AAct} {H H' : AH} (h : MarksR lo ms a H) (ho : ∀ m, H.get m = some (.mark true) → H'.get m = some (.mark true)) : MarksR lo ms a H' :=
  ⟨h.rel.imp rfl fun x _ y _ hxy => by
    cases x <;> cases y <;> first | exact hxy | exact ⟨hxy.1, ho _ hxy.2⟩, h.nd⟩

structure RelA (C : Ctx) (e : Env) (s : PS) (a : AAct) (H : AH) : Prop where
  h : RelH C e s.fr s.tk H
  n : a.n = s.n
  marks : MarksR C.H0.next s.ms a H
  r0 : C.ids.length = s.r0
  t0 : C.toks.length = s.t0
  tm : ∀ (t : Nat) (p : PV), s.tm.get t = some p → ∃ v, a.tm.get t = some v ∧ RV e s.tk H true p v

def Up (C : Ctx) {α : Type} (Q : α → PS → Prop) : α → AAct → AH → Prop := fun x a H => ∃ e s, RelA C e s a H ∧ Q x s
def UpO (C : Ctx) (Q : PS → Prop) : AAct → AH → Prop := fun a H => ∃ e s, RelA C e s a H ∧ Q s

/-- a round's loop is there -/
def RndOK (rnd : Option Nat) (C : Ctx) : Prop := ∀ l, rnd = some l → ∃ r, C.H0.get l = some (.loop r)
def PC (P : Program) (O : Orc) (rnd : Option Nat) (c : Code) (s : PS) (Q : AX → PS → Prop) : Prop :=
  ∀ C e a H, RelA C e s a H → RndOK rnd C → WC P O rnd c a H (Up C Q)
def PO (P : Program) (O : Orc) (rnd : Option Nat) (all os : List Oper) (s : PS) (Q : PS → Prop) : Prop :=
  ∀ C e a H, RelA C e s a H → WO P O rnd all os a H (UpO C Q)
def PF (P : Program) (O : Orc) (f : FuncId) (args : List PV) (fr : List PRow) (tk : List Nat) (Q : PV → List PRow → List Nat → Prop) : Prop :=
  ∀ e H vs, HInv e fr tk H → XC e H → L2 (RV e tk H true) args vs → WF1 P O f vs H (fun v H' => ∃ e' fr' tk' p, Step e tk H e' fr' tk' H' ∧ RV e' tk' H' true p v ∧ Q p fr' tk')

theorem PC.mono {rnd : Option Nat} {c : Code} {s : PS} {Q Q' : AX → PS → Prop} (h : PC P O rnd c s Q) (hq : ∀ x s, Q x s → Q' x s) : PC P O rnd c s Q' :=
  fun C e a H hR hX => (h C e a H hR hX).mono fun x a' H' ⟨e', s', h1, h2⟩ => ⟨e', s', h1, hq _ _ h2⟩
theorem WO.mono {rnd : Option Nat} {all os : List Oper} {a : AAct} {H : AH} {Q Q' : AAct → AH → Prop} (h : WO P O rnd all os a H Q) (hq : ∀ a H, Q a H → Q' a H) : WO P O rnd all os a H Q' :=
  let ⟨n, a', H', h1, h2⟩ := h; ⟨n, a', H', h1, hq _ _ h2⟩

/-! ### Control -/
section code
variable {rnd : Option Nat} {s : PS} {Q : AX → PS → Prop}

theorem PC.skip (h : Q .normal s) : PC P O rnd .skip s Q := fun C e a H hR hX => WC.skip ⟨e, s, hR, h⟩

def andThenP (P : Program) (O : Orc) (rnd : Option Nat) (z : Code) (Q : AX → PS → Prop) : AX → PS → Prop
  | .normal, s => PC P O rnd z s Q
  | x, s => Q x s

theorem PC.seq {x z : Code} (h : PC P O rnd x s (andThenP P O rnd z Q)) : PC P O rnd (.seq x z) s Q := fun C e a H hR hX => by
  refine WC.seq ((h C e a H hR hX).mono fun x a' H' ⟨e', s', h1, h2⟩ => ?_)
  cases x with
  | normal => exact h2 C e' a' H' h1 hX
  | _ => exact ⟨e', s', h1, h2⟩
theorem PC.assoc {x y z : Code} (h : PC P O rnd (.seq x (.seq y z)) s Q) : PC P O rnd (.seq (.seq x y) z) s Q := fun C e a H hR hX => WC.assoc (h C e a H hR hX)
theorem PC.lone {x : Code} (h : PC P O rnd (.seq x .skip) s Q) : PC P O rnd x s Q := fun C e a H hR hX => WC.lone (h C e a H hR hX)
theorem PC.region {i : Nat} {ops : Array Oper} {z : Code} (h : PO P O rnd ops.toList ops.toList s (fun s1 => PC P O rnd z s1 Q)) : PC P O rnd (.seq (.region i ops false) z) s Q := fun C e a H hR hX =>
  WC.region ((h C e a H hR).mono fun a' H' ⟨e', s', h1, h2⟩ => h2 C e' a' H' h1 hX)
theorem PC.drawn {i : Nat} {ops : Array Oper} {z : Code} {order : List Nat} (hp : plainDraw P ops.toList order = true) (h : PO P O rnd ops.toList (pickO ops.toList order) s (fun s1 => PC P O rnd z s1 Q)) : PC P O rnd (.seq (.region i ops true) z) s Q := fun C e a H hR hX =>
  WC.drawn hp ((h C e a H hR).mono fun a' H' ⟨e', s', h1, h2⟩ => h2 C e' a' H' h1 hX)
theorem PC.noop {z : Code} (h : PC P O rnd z s Q) : PC P O rnd (.seq .skip z) s Q := fun C e a H hR hX => WC.noop (h C e a H hR hX)
theorem PC.ret {z : Code} (h : Q .ret s) : PC P O rnd (.seq .ret z) s Q := fun C e a H hR hX => WC.ret ⟨e, s, hR, h⟩
theorem PC.ret' (h : Q .ret s) : PC P O rnd .ret s Q := fun C e a H hR hX => WC.ret' ⟨e, s, hR, h⟩
theorem PC.exit {id : Nat} {z : Code} (h : Q (.exit id) s) : PC P O rnd (.seq (.exit id) z) s Q := fun C e a H hR hX => WC.exit ⟨e, s, hR, h⟩

def PS.ev (s : PS) : Operand → Option PV
  | .tmp t => s.tm.get t
  | .const v => pick (gnd gd v) (match v with
      | .agg vs => pick (vs.toList.all plainCell) (some (.agg (vs.toList.map .val))) none
      | .tuple _ => none
      | v => some (.val v)) none
  | .func f => some (.fn f [] [])
  | .global _ => none

theorem pick_some {α : Type} {b : Bool} {x : Option α} {z : α} (h : pick b x none = some z) : b = true ∧ x = some z := by
  cases b with
  | true => exact ⟨rfl, h⟩
  | false => cases h

theorem RelA.ev {C : Ctx} {e : Env} {a : AAct} {H : AH} (hR : RelA C e s a H) {o : Operand} {p : PV} (h : s.ev o = some p) : ∃ v, a.ev o = some v ∧ RV e s.tk H true p v := by
  cases o with
  | tmp t => exact hR.tm t p h
  | const v =>
    simp only [PS.ev] at h
    obtain ⟨hg, h⟩ := pick_some h
    refine ⟨v, by simp only [AAct.ev, hg]; rfl, ?_⟩
    cases v with
    | agg vs =>
      simp only at h
      obtain ⟨hp, h⟩ := pick_some h
      cases h
      have : RV e s.tk H true (.agg (vs.toList.map .val)) (.agg vs.toList.toArray) := by
        refine .agg (by simp) fun i p v hi hv => ?_
        rw [List.getElem?_map, hv] at hi
        cases hi
        exact .val (List.all_eq_true.1 hp v (List.mem_of_getElem? hv))
      simpa using this
    | tuple vs => cases h
    | _ => cases h; exact .val rfl
  | func f => cases h; exact ⟨_, rfl, .fn (vs := []) (ws := []) rfl (fun i p v hi => by simp at hi) rfl (fun i p v hi => by simp at hi)⟩
  | global g => cases h

theorem RV.bool_inv {e : Env} {tk : List Nat} {H : AH} {b : Bool} {w v : Value} (h : RV e tk H b (.val w) v) : v = w := by cases h; rfl

theorem PC.cond {o : Operand} {x y z : Code} {b : Bool} (ho : s.ev o = some (.val (.bool b))) (ht : b = true → PC P O rnd (.seq x z) s Q) (hf : b = false → PC P O rnd (.seq y z) s Q) : PC P O rnd (.seq (.cond o x y) z) s Q := fun C e a H hR hX => by
  obtain ⟨v, h1, h2⟩ := hR.ev ho
  rw [h2.bool_inv] at h1
  exact WC.cond h1 (fun h => ht h C e a H hR hX) (fun h => hf h C e a H hR hX)

def blockKP (P : Program) (O : Orc) (rnd : Option Nat) (id : Nat) (z : Code) (Q : AX → PS → Prop) : AX → PS → Prop
  | .normal, s => PC P O rnd z s Q
  | .exit j, s => if j = id then PC P O rnd z s Q else Q (.exit j) s
  | x, s => Q x s

theorem PC.block {id : Nat} {x z : Code} (h : PC P O rnd x s (blockKP P O rnd id z Q)) : PC P O rnd (.seq (.block id x) z) s Q := fun C e a H hR hX => by
  refine WC.block ((h C e a H hR hX).mono fun x a' H' ⟨e', s', h1, h2⟩ => ?_)
  cases x with
  | normal => exact h2 C e' a' H' h1 hX
  | exit j =>
    simp only [blockK]
    simp only [blockKP] at h2
    split
    · rename_i hj; rw [if_pos hj] at h2; exact h2 C e' a' H' h1 hX
    · rename_i hj; rw [if_neg hj] at h2; exact ⟨e', s', h1, h2⟩
  | _ => exact ⟨e', s', h1, h2⟩
theorem blockKP.end {id : Nat} {z : Code} (h : PC P O rnd z s Q) : blockKP P O rnd id z Q .normal s := h
theorem blockKP.back {id : Nat} {z : Code} (h : Q .ret s) : blockKP P O rnd id z Q .ret s := h

def loopKP (I : Nat → PS → Prop) (k : Nat) (Q : AX → PS → Prop) : AX → PS → Prop
  | .normal, s => ∃ k', k' < k ∧ I k' s
  | x, s => Q x s

theorem PC.loop {x : Code} (I : Nat → PS → Prop) (hI : ∀ k s, I k s → PC P O rnd x s (loopKP I k Q)) (k : Nat) (h : I k s) : PC P O rnd (.loop x) s Q := fun C e a H hR hX => by
  refine WC.loop (fun k a H => ∃ e s, RelA C e s a H ∧ I k s) (fun k a H ⟨e, s, h1, h2⟩ => ?_) k ⟨e, s, hR, h⟩
  refine (hI k s h2 C e a H h1 hX).mono fun x a' H' ⟨e', s', k1, k2⟩ => ?_
  cases x with
  | normal => obtain ⟨k', k3, k4⟩ := k2; exact ⟨k', k3, e', s', k1, k4⟩
  | _ => exact ⟨e', s', k1, k2⟩
theorem loopKP.mk {I : Nat → PS → Prop} {k k' : Nat} (hk : k' < k) (h : I k' s) : loopKP I k Q .normal s := ⟨k', hk, h⟩
theorem loopKP.ret {I : Nat → PS → Prop} {k : Nat} (h : Q .ret s) : loopKP I k Q .ret s := h
theorem loopKP.exit {I : Nat → PS → Prop} {k i : Nat} (h : Q (.exit i) s) : loopKP I k Q (.exit i) s := h

def joinKP (J : PS → Prop) (Q : AX → PS → Prop) : AX → PS → Prop
  | .normal, s => J s
  | x, s => Q x s
theorem PC.join {x z : Code} (J : PS → Prop) (h1 : PC P O rnd (.seq x .skip) s (joinKP J Q)) (h2 : ∀ s1, J s1 → PC P O rnd z s1 Q) : PC P O rnd (.seq x z) s Q := by
  refine PC.seq ((PC.lone h1).mono fun e s1 hq => ?_)
  cases e with
  | normal => exact h2 s1 hq
  | _ => exact hq
theorem joinKP.end {J : PS → Prop} (h : J s) : joinKP J Q .normal s := h

/-! ### Calls -/
def PS.start (n : Nat) (args : List PV) (fr : List PRow) (tk : List Nat) : PS := ⟨args.zipIdx.foldl (fun t (v, i) => T.put AH.top t i v) (T.full 10), n, fr, tk, fr.length, tk.length, []⟩

theorem start_get {α : Type} : ∀ (args : List α) (k : Nat) (t0 : T α), k + args.length ≤ 1000000 → ∀ j, ((args.zipIdx k).foldl (fun t (p : α × Nat) => T.put AH.top t p.2 p.1) t0).get j = if k ≤ j ∧ j < k + args.length then args[j - k]? else t0.get j
  | [], k, t0, _, j => by rw [if_neg (by simp)]; rfl
  | v :: l, k, t0, h, j => by
    simp only [List.length_cons] at h
    simp only [List.zipIdx_cons, List.foldl_cons]
    rw [start_get l (k + 1) _ (by omega) j]
    have hp : (T.put AH.top t0 k v).get j = if j = k then some v else t0.get j := T.get_put 48 _ _ _ _ (by have : 2 ^ 48 = 281474976710656 := rfl; omega)
    simp only [List.length_cons]
    by_cases h1 : k + 1 ≤ j ∧ j < k + 1 + l.length
    · rw [if_pos h1, if_pos (by omega)]
      obtain ⟨d, rfl⟩ : ∃ d, j = k + 1 + d := ⟨j - (k + 1), by omega⟩
      rw [show k + 1 + d - (k + 1) = d by omega, show k + 1 + d - k = d + 1 by omega]
      simp
    · rw [if_neg h1, hp]
      by_cases e1 : j = k
      · subst e1; rw [if_pos rfl, if_pos (by omega)]; simp
      · rw [if_neg e1, if_neg (by omega)]

/-- what a pointer into a row of one's own reads -/
def pLoad (P : Program) (fr : List PRow) (t : TypeId) : PV → Option PV
  | .ptr k off => match fr[k]? with
    | some R => match Nat.beq R.esz mapE with
      | true => none
      | false => match tAgg P t with
        | .ok true => match tSize P t with
          | .ok n => pick (Nat.ble (off + n) R.cells.length) (some (.agg ((R.cells.drop off).take n))) none
          | _ => none
        | .ok false => R.cells[off]?
        | _ => none
    | none => none
  | .eptr cells off => match tAgg P t with
      | .ok true => match tSize P t with
        | .ok n => pick (Nat.ble (off + n) cells.length) (some (.agg ((cells.drop off).take n))) none
        | _ => none
      | .ok false => cells[off]?
      | _ => none
  | _ => none

theorem takeK_map {l : List Value} {n : Nat} (h : n ≤ l.length) : takeK (l.map some) n = .ok (l.take n) := by
  induction n generalizing l with
  | zero => cases l <;> rfl
  | succ n ih =>
    cases l with
    | nil => simp at h
    | cons v l =>
      show (takeK (l.map some) n >>= fun x => Except.ok (v :: x)) = _
      rw [ih (by simpa using h)]; rfl

theorem RelA.load {C : Ctx} {e : Env} {a : AAct} {H : AH} (hR : RelA C e s a H) {t : TypeId} {p q : PV} {v : Value} (hp : RV e s.tk H true p v) (h : pLoad P s.fr t p = some q) : ∃ id off u, addrOf v = .ok (id, off) ∧ aLoad P H t id off = .ok u ∧ RV e s.tk H true q u := by
  cases p with
  | ptr k off =>
    cases hp with
    | @ptr _ _ id hk =>
      simp only [pLoad] at h
      cases hR1 : s.fr[k]? with
      | none => rw [hR1] at h; cases h
      | some R =>
        rw [hR1] at h
        simp only at h
        cases hz : Nat.beq R.esz mapE with
        | true => rw [hz] at h; cases h
        | false =>
        rw [hz] at h
        obtain ⟨r, vs, h2, h3, h4, h5, h6, h7, h8⟩ := (hR.h.inv.row k id R hk hR1).row hz
        have hrow : H.row id = .ok r := by unfold AH.row; rw [h2]
        refine ⟨id, off, ?_⟩
        simp only at h
        cases ha : tAgg P t with
        | error n => rw [ha] at h; cases h
        | ok b =>
          rw [ha] at h
          cases b with
          | true =>
            cases hn : tSize P t with
            | error n => rw [hn] at h; cases h
            | ok n =>
              rw [hn] at h
              obtain ⟨hle, h⟩ := pick_some h
              cases h
              rw [Nat.ble_eq] at hle
              have hle' : off + n ≤ vs.length := by rw [← h8.1]; exact hle
              refine ⟨.agg ((vs.drop off).take n).toArray, rfl, ?_, ?_⟩
              · simp only [aLoad, hrow, ha, hn, bind, Except.bind, if_true, h7, ← List.map_drop]
                rw [takeK_map (by rw [List.length_drop]; omega)]
              · have := (h8.drop off).take n
                exact .agg this.1 this.2
          | false =>
            obtain ⟨u, hu, hu'⟩ := h8.at h
            refine ⟨u, rfl, ?_, hu'⟩
            have h7' : r.cells[off]? = some (some u) := by rw [h7, List.getElem?_map, hu]; rfl
            simp only [aLoad, hrow, ha, bind, Except.bind, Bool.false_eq_true, if_false, h7']
  | eptr cells off =>
    cases hp with
    | @eptr _ _ _ id base n r w hr hn hs hv hh =>
      simp only [pLoad] at h
      have hrow : H.row id = .ok r := by unfold AH.row; rw [hr]
      refine ⟨id, base + off, ?_⟩
      cases ha : tAgg P t with
      | error n => rw [ha] at h; cases h
      | ok b =>
        rw [ha] at h
        cases b with
        | true =>
          cases hn : tSize P t with
          | error n => rw [hn] at h; cases h
          | ok n =>
            rw [hn] at h
            obtain ⟨hle, h⟩ := pick_some h
            cases h
            rw [Nat.ble_eq] at hle
            refine ⟨.agg ((List.range n).map (fun x => w (off + x))).toArray, rfl, ?_, ?_⟩
            · simp only [aLoad, hrow, ha, hn, bind, Except.bind, if_true]
              rw [takeK_fn n _ (fun x => w (off + x)) (fun x hx => by
                obtain ⟨p, hp⟩ := get_of_lt (l := cells) (i := off + x) (by omega)
                rw [List.getElem?_drop, show base + off + x = base + (off + x) by omega]
                exact hv _ _ hp)]
            · refine .agg (by simp; omega) fun i p v hi hv' => ?_
              rw [List.getElem?_take] at hi
              split at hi
              · rename_i hin
                rw [List.getElem?_drop] at hi
                rw [List.getElem?_map, List.getElem?_range hin] at hv'
                cases hv'
                exact (hh _ _ hi).top
              · cases hi
        | false =>
          refine ⟨w off, rfl, ?_, (hh _ _ h).top⟩
          have h7' : r.cells[base + off]? = some (some (w off)) := hv _ _ h
          simp only [aLoad, hrow, ha, bind, Except.bind, Bool.false_eq_true, if_false, h7']
  | _ => cases h

def pResult (P : Program) (s : PS) : ResultVar → Option PV
  | .tmp t => s.tm.get t
  | .cell t ty => match s.tm.get t with
    | some p => pLoad P s.fr ty p
    | none => none
def pResultL (P : Program) (s : PS) : List ResultVar → Option (List PV)
  | [] => some []
  | r :: rs => match pResult P s r with
    | some p => match pResultL P s rs with
      | some ps => some (p :: ps)
      | none => none
    | none => none
def pResults (P : Program) (s : PS) (rs : List ResultVar) : Option PV :=
  match pResultL P s rs with
  | some [p] => some p
  | some ps => some (.tup ps)
  | none => none

theorem allR_cons {α β : Type} {f : α → R β} {x : α} {y : β} {l : List α} {ys : List β} (h : f x = .ok y) (h' : allR f l = .ok ys) : allR f (x :: l) = .ok (y :: ys) := by
  simp only [allR, h, h', bind, Except.bind]

def resF (P : Program) (H : AH) (a : AAct) : ResultVar → R Value := fun r => match r with
  | .tmp t => .ok ((a.tm.get t).getD undef)
  | .cell t ty => do
    let (id, off) ← addrOf ((a.tm.get t).getD undef)
    aLoad P H ty id off
theorem aResults_eq (H : AH) (a : AAct) (rs : List ResultVar) : aResults P H a rs = (allR (resF P H a) rs >>= fun vs => match vs with
  | [v] => .ok v
  | _ => .ok (.tuple vs.toArray)) := rfl

theorem RelA.results {C : Ctx} {e : Env} {a : AAct} {H : AH} (hR : RelA C e s a H) {rs : List ResultVar} {p : PV} (h : pResults P s rs = some p) : ∃ v, aResults P H a rs = .ok v ∧ RV e s.tk H true p v := by
  have key : ∀ (rs : List ResultVar) (ps : List PV), pResultL P s rs = some ps → ∃ vs, allR (resF P H a) rs = .ok vs ∧ L2 (RV e s.tk H true) ps vs := by
    intro rs
    induction rs with
    | nil => intro ps h; cases h; exact ⟨[], rfl, L2.nil⟩
    | cons r rs ih =>
      intro ps h
      simp only [pResultL] at h
      cases hp : pResult P s r with
      | none => rw [hp] at h; cases h
      | some p =>
        rw [hp] at h
        cases hq : pResultL P s rs with
        | none => rw [hq] at h; cases h
        | some qs =>
          rw [hq] at h; cases h
          obtain ⟨vs, h1, h2⟩ := ih qs hq
          cases r with
          | tmp t =>
            obtain ⟨v, h3, h4⟩ := hR.tm t p hp
            exact ⟨v :: vs, allR_cons (by simp only [resF, h3, Option.getD_some]) h1, L2.cons h4 h2⟩
          | cell t ty =>
            simp only [pResult] at hp
            cases ht : s.tm.get t with
            | none => rw [ht] at hp; cases hp
            | some q =>
              rw [ht] at hp
              obtain ⟨v, h3, h4⟩ := hR.tm t q ht
              obtain ⟨id, off, u, k1, k2, k3⟩ := hR.load h4 hp
              exact ⟨u :: vs, allR_cons (by simp only [resF, h3, Option.getD_some, k1, k2, bind, Except.bind]) h1, L2.cons k3 h2⟩
  unfold pResults at h
  cases hq : pResultL P s rs with
  | none => rw [hq] at h; cases h
  | some ps =>
    obtain ⟨vs, h1, h2⟩ := key rs ps hq
    rw [hq] at h
    rw [aResults_eq, h1]
    rcases ps with _ | ⟨q, _ | ⟨q2, l⟩⟩
    · cases h
      have := h2.cases_nil; subst this
      exact ⟨_, rfl, .tup h2.1 h2.2⟩
    · cases h
      obtain ⟨v, m, rfl, k1, k2⟩ := h2.cases_cons
      have := k2.cases_nil; subst this
      exact ⟨v, rfl, k1⟩
    · cases h
      obtain ⟨v, m, rfl, k1, k2⟩ := h2.cases_cons
      obtain ⟨v2, m2, rfl, k3, k4⟩ := k2.cases_cons
      exact ⟨_, rfl, .tup h2.1 h2.2⟩

def isRet : AX → Prop
  | .normal => True
  | .ret => True
  | _ => False

def nilKnown (O : Orc) (f : FuncId) (l : List PV) : Option Value :=
  match O.s f with
  | true => some (.bool false)
  | false =>
    match l with
    | [] => O.v f
    | _ :: _ => none

theorem known_of {f : FuncId} {args : List PV} {vs : List Value} (hk : nilKnown O f args = none) (hl : args.length = vs.length) : Eng.known O f vs = none := by
  unfold nilKnown at hk
  unfold Eng.known
  cases hs : O.s f with
  | true => rw [hs] at hk; cases hk
  | false =>
    rw [hs] at hk
    cases vs with
    | cons v l => rfl
    | nil =>
      cases args with
      | nil => exact hk
      | cons p l => simp at hl

end code
end
end Go.Eng
