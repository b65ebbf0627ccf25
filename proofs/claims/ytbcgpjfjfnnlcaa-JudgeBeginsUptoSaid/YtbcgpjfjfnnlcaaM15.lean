/-
  The calculus: where paths meet; what a lifted function tells.
-/
import Derived.Test.YtbcgpjfjfnnlcaaM12
set_option linter.unusedSimpArgs false
set_option linter.unusedVariables false
namespace Go.Eng
noncomputable section
variable {P : Program} {O : Orc}

section code
variable {rnd : Option Nat} {s : PS} {Q : AX → PS → Prop}

def blockJK (id : Nat) (J : PS → Prop) (Q : AX → PS → Prop) : AX → PS → Prop
  | .normal, s => J s
  | .exit j, s => if j = id then J s else Q (.exit j) s
  | x, s => Q x s
theorem PC.blockJ {id : Nat} {x z : Code} (J : PS → Prop) (h1 : PC P O rnd x s (blockJK id J Q)) (h2 : ∀ s1, J s1 → PC P O rnd z s1 Q) : PC P O rnd (.seq (.block id x) z) s Q := by
  refine PC.block (h1.mono fun x s1 hq => ?_)
  cases x with
  | normal => exact h2 s1 hq
  | exit j =>
    simp only [blockKP]
    simp only [blockJK] at hq
    split
    · rename_i hj; rw [if_pos hj] at hq; exact h2 s1 hq
    · rename_i hj; rw [if_neg hj] at hq; exact hq
  | _ => exact hq
theorem blockJK.here {id : Nat} {J : PS → Prop} (h : J s) : blockJK id J Q (.exit id) s := by simp only [blockJK, if_true]; exact h
theorem blockJK.end {id : Nat} {J : PS → Prop} (h : J s) : blockJK id J Q .normal s := h
theorem blockJK.back {id : Nat} {J : PS → Prop} (h : Q .ret s) : blockJK id J Q .ret s := h

end code

section ops
variable {rnd : Option Nat} {all os : List Oper} {s : PS} {Q : PS → Prop}
theorem PO.cut (n : Nat) (J : PS → Prop) (h1 : PO P O rnd all (os.take n) s J) (h2 : ∀ s1, J s1 → PO P O rnd all (os.drop n) s1 Q) : PO P O rnd all os s Q := fun C e a H hR => by
  obtain ⟨m, a1, H1, k1, e1, s1, k2, k3⟩ := h1 C e a H hR
  obtain ⟨m2, a2, H2, k4, k5⟩ := h2 s1 k3 C e1 a1 H1 k2
  refine ⟨max m m2, a2, H2, ?_, k5⟩
  rw [← List.take_append_drop n os]
  have key : ∀ (xs ys : List Oper) (a : AAct) (H : AH), aOps P (oRun P O (max m m2)) rnd all xs a H = .ok (a1, H1) → aOps P (oRun P O (max m m2)) rnd all ys a1 H1 = .ok (a2, H2) → aOps P (oRun P O (max m m2)) rnd all (xs ++ ys) a H = .ok (a2, H2) := by
    intro xs
    induction xs with
    | nil => intro ys a H h1 h2; simp only [aOps] at h1; cases h1; exact h2
    | cons o xs ih =>
      intro ys a H h1 h2
      simp only [List.cons_append, aOps] at h1 ⊢
      obtain ⟨b, b1, b2⟩ := bok h1
      rw [b1]
      cases b with
      | true =>
        simp only [if_true] at b2
        show (match deferOf o.op with | some c => _ | none => _) = _
        cases hd : deferOf o.op with
        | some c =>
          rw [hd] at b2
          simp only at b2 ⊢
          split at b2
          · cases b2
          · rename_i hr
            obtain ⟨d, d1, d2⟩ := bok b2
            obtain ⟨a', a1', a2'⟩ := bok d2
            rw [if_neg hr, d1]
            show ((AAct.put ⟨a.tm, a.n, d :: a.marks⟩ o.dst undef) >>= fun a' => aOps P (oRun P O (max m m2)) rnd all (xs ++ ys) a' H) = _
            rw [a1']
            exact ih ys a' H a2' h2
        | none =>
          rw [hd] at b2
          simp only at b2 ⊢
          obtain ⟨⟨v, Hv⟩, d1, d2⟩ := bok b2
          obtain ⟨a', a1', a2'⟩ := bok d2
          rw [d1]
          show ((a.put o.dst v) >>= fun a' => aOps P (oRun P O (max m m2)) rnd all (xs ++ ys) a' Hv) = _
          rw [a1']
          exact ih ys a' Hv a2' h2
      | false =>
        simp only [Bool.false_eq_true, if_false] at b2
        obtain ⟨a', a1', a2'⟩ := bok b2
        show ((a.put o.dst undef) >>= fun a' => aOps P (oRun P O (max m m2)) rnd all (xs ++ ys) a' H) = _
        rw [a1']
        exact ih ys a' H a2' h2
  exact key _ _ a H (ops_up (Nat.le_max_left m m2) k1) (ops_up (Nat.le_max_right m m2) k4)

/-- one of two ways, by a truth that a temporary holds -/
theorem RelA.isB {C : Ctx} {e : Env} {a : AAct} {H : AH} {t : Nat} {b : Bool} (hR : RelA C e s a H) (hcan : s.can (some t) = true) (ht : s.tm.get t = some (.val (.bool b))) : ∀ c, b = c → RelA C e (s.upd (some t) (.val (.bool c))) a H := fun c hc => by
    subst hc
    obtain ⟨v, h3, h4⟩ := hR.tm t _ ht
    obtain ⟨tm, n, fr, tk, r0, t0, ms⟩ := s
    refine ⟨hR.h, hR.n, hR.marks, hR.r0, hR.t0, fun u q hq => ?_⟩
    have hq' : (T.put AH.top tm t (.val (.bool b))).get u = some q := hq
    have hb : t + 1 < 2 ^ 48 := by
      replace hcan := (can_split hcan).2
      simp only [PS.can0] at hcan
      cases h1 : Nat.ble (Nat.succ t) n with
      | false => rw [h1] at hcan; cases hcan
      | true =>
        rw [h1] at hcan
        have h2 : Nat.ble n 281474976710654 = true := hcan
        rw [Nat.ble_eq] at h1 h2
        exact Nat.lt_of_le_of_lt (Nat.le_trans h1 h2) (by decide)
    · rw [show (T.put AH.top tm t (.val (.bool b))).get u = if u = t then some (.val (.bool b)) else tm.get u from T.get_put 48 _ _ _ _ hb] at hq'
      split at hq'
      · rename_i e1; cases hq'; subst e1; exact ⟨v, h3, h4⟩
      · exact hR.tm u q hq'
theorem PO.case {t : Nat} {b : Bool} (hcan : s.can (some t) = true) (ht : s.tm.get t = some (.val (.bool b))) (h1 : b = true → PO P O rnd all os (s.upd (some t) (.val (.bool true))) Q) (h2 : b = false → PO P O rnd all os (s.upd (some t) (.val (.bool false))) Q) : PO P O rnd all os s Q := fun C e a H hR => by
  cases b with
  | true => exact h1 rfl C e a H (hR.isB hcan ht true rfl)
  | false => exact h2 rfl C e a H (hR.isB hcan ht false rfl)
end ops

/-! ### Lifted functions -/
def bindI {α β : Type} (L : List α) (i : Int) (f : α → Option β) : Option β := if 0 ≤ i then (L[i.toNat]?).bind f else none
theorem bindI_some {α β : Type} {L : List α} {i : Int} {f : α → Option β} {r : β} (h : bindI L i f = some r) : ∃ y, 0 ≤ i ∧ L[i.toNat]? = some y ∧ f y = some r := by
  unfold bindI at h
  split at h
  · rename_i h0
    obtain ⟨y, h1, h2⟩ := Option.bind_eq_some_iff.1 h
    exact ⟨y, h0, h1, h2⟩
  · cases h
def bindS {α β : Type} (L : List α) (lo hi : Int) (f : List α → Option β) : Option β := if 0 ≤ lo ∧ lo ≤ hi ∧ hi ≤ L.length then f ((L.take hi.toNat).drop lo.toNat) else none
theorem bindS_some {α β : Type} {L : List α} {lo hi : Int} {f : List α → Option β} {r : β} (h : bindS L lo hi f = some r) : 0 ≤ lo ∧ lo ≤ hi ∧ hi ≤ L.length ∧ f ((L.take hi.toNat).drop lo.toNat) = some r := by
  unfold bindS at h
  split at h
  · rename_i h0; exact ⟨h0.1, h0.2.1, h0.2.2, h⟩
  · cases h
def bindA {α β : Type} (bytes : Nat) (L M : List α) (f : List α → Option β) : Option β := if (5 * (L.length + M.length) + 768) * bytes ≤ 1125899906842624 then f (L ++ M) else none
theorem bindA_some {α β : Type} {bytes : Nat} {L M : List α} {f : List α → Option β} {r : β} (h : bindA bytes L M f = some r) : (5 * (L.length + M.length) + 768) * bytes ≤ 1125899906842624 ∧ f (L ++ M) = some r := by
  unfold bindA at h
  split at h
  · rename_i h0; exact ⟨h0, h⟩
  · cases h
def bindD {β : Type} (n : Int) (f : Option β) : Option β := if n = 0 then none else f
theorem bindD_some {β : Type} {n : Int} {f : Option β} {r : β} (h : bindD n f = some r) : n ≠ 0 ∧ f = some r := by
  unfold bindD at h
  split at h
  · cases h
  · rename_i h0; exact ⟨h0, h⟩
theorem bif_t {α : Type} {b : Bool} (h : b = true) {x y : Option α} {r : α} (hF : (bif b then x else y) = some r) : x = some r := by subst h; exact hF
theorem bif_f {α : Type} {b : Bool} (h : b = false) {x y : Option α} {r : α} (hF : (bif b then x else y) = some r) : y = some r := by subst h; exact hF
theorem bind_some {α β : Type} {x : Option α} {f : α → Option β} {r : β} (h : x.bind f = some r) : ∃ y, x = some y ∧ f y = some r := Option.bind_eq_some_iff.1 h
theorem map_at {α β : Type} {L : List α} {f : α → β} {i : Nat} {y : α} (h : L[i]? = some y) : (L.map f)[i]? = some (f y) := by rw [List.getElem?_map, h]; rfl

end
end Go.Eng
/-
  The calculus: rules that a printed walk leans on.
-/
namespace Go.Eng
noncomputable section
variable {P : Program} {O : Orc}

section ops
variable {rnd : Option Nat} {all os : List Oper} {s : PS} {Q : PS → Prop} {d : Option Tmp} {ty : TypeId} {pst : String} {af : Array Edge} {gu : Option (Nat × Bool)}

theorem aggEq_ok {op : BinOp} {t t2 : TypeId} {x y : Operand} {l m : List PV} {us ws : List Value} {v : Value} (hx : s.ev x = some (.agg l)) (hy : s.ev y = some (.agg m)) (hl : valsOf l = some us) (hm : valsOf m = some ws) (hg : gnd gd (.agg us.toArray) = true) (hg2 : gnd gd (.agg ws.toArray) = true)
    (hp : plainCell v = true) (hv : aEq P op t (.agg us.toArray) (.agg ws.toArray) = .ok v) : OpSame P O s ⟨d, .binOp op t x y t2, ty, pst, af, gu⟩ (.val v) :=
  .mk' rfl fun C e a H hR => by
    obtain ⟨u, h1, h2⟩ := hR.ev hx
    obtain ⟨w, h3, h4⟩ := hR.ev hy
    have e1 := h2.known (u := .agg us.toArray) (by simp only [PV.known, hl]); subst e1
    have e2 := h4.known (u := .agg ws.toArray) (by simp only [PV.known, hm]); subst e2
    exact ⟨0, v, by simp only [aOp, AAct.ev_eval h1, AAct.ev_eval h3, bind, Except.bind, bothPtr, aBin, hv, hg, hg2, Bool.and_true, if_true, Bool.false_eq_true, if_false], .val hp⟩

theorem append_typed {α : Type} {L M L2 : List α} {f : α → List PV} {t u el sz bytes k n : Nat} {x y : Operand} {zs : List Value} {l m : List (List PV)} {tko : Option Nat} (ht : P.underlying t = some (.slice el)) (hu : tZeros P (some u) = .ok false) (hs : tSize P el = .ok sz) (hb : tBytes P el = .ok bytes) (hz : tZero P el = .ok zs) (hs0 : Nat.beq sz 0 = false) (hb0 : Nat.beq bytes 0 = false)
    (hx : s.ev x = some (.list sz l (some k))) (hl : l = L.map f) (hy : s.ev y = some (.list sz m tko)) (hm : m = M.map f) (hn : s.tk[k]? = some n) (hln : L.length = n) (hbig : (5 * (L.length + M.length) + 768) * bytes ≤ 1125899906842624) (h2 : L ++ M = L2) :
    OpOK P O s ⟨d, .call ⟨.builtin .append, #[x, y], #[t, u]⟩, ty, pst, af, gu⟩ (.list sz (L2.map f) (some k)) s.fr (s.tk.set k L2.length) := by
  subst hl; subst hm; subst h2
  refine append_list_ok (l := L.map f) (m := M.map f) ht hu hs hb hz hs0 hb0 hx hy hn (by rw [List.length_map]; exact hln) (by simpa using hbig) (by rw [List.map_append]) (by simp)

theorem toNat_le1 {α β : Type} {L : List α} {f : α → β} {hi : Int} (h : hi ≤ L.length) : hi.toNat ≤ (L.map f).length := by rw [List.length_map]; omega
end ops

theorem Less.aggL {lo hi : Nat} {l m : List PV} (h : LessL lo hi l m) : Less lo hi (.agg l) (.agg m) := .agg h.1 h.2

/-! ### A state, put in other words, where no value turns -/
def oneT (s : PS) (ks ts : List Nat) : Nat × PV → Option PV := fun (t, _) => match s.tm.get t with
  | some p => PV.to (idx ks) (idx ts) 4 p
  | none => none
def oneR (s : PS) (ks ts : List Nat) (k : Nat) : Option PRow := match s.fr[k]? with
  | some R => match mapO (PV.to (idx ks) (idx ts) 4) R.cells with
    | some cs => some ⟨R.esz, cs⟩
    | none => none
  | none => none

theorem Weak.same {s : PS} (ks ts : List Nat) {es : List (Nat × PV)} {fr' : List PRow} {tk' : List Nat} (hk : selB s.r0 s.fr.length ks = true) (ht : selB s.t0 s.tk.length ts = true) (htk : pickN s.tk ts = tk')
    (hfr : mapO (oneR s ks ts) ks = some fr') (hes : mapO (oneT s ks ts) es = some (es.map Prod.snd)) : Weak s (PS.ofm s.ms s.n es fr' tk' s.r0 s.t0) := by
  refine Weak.mk ks ts 0 hk ht (by rw [htk]; simp) ?_ ?_
  · have key : ∀ (l : List Nat) (fr' : List PRow), mapO (oneR s ks ts) l = some fr' → SelFr s ks ts 0 l fr' := by
      intro l
      induction l with
      | nil => intro fr' h; cases h; trivial
      | cons k l ih =>
        intro fr' h
        simp only [mapO] at h
        cases h1 : oneR s ks ts k with
        | none => rw [h1] at h; cases h
        | some R =>
          rw [h1] at h
          cases h2 : mapO (oneR s ks ts) l with
          | none => rw [h2] at h; cases h
          | some Rs =>
            rw [h2] at h; cases h
            refine ⟨?_, ih _ h2⟩
            unfold oneR at h1
            cases h3 : s.fr[k]? with
            | none => rw [h3] at h1; cases h1
            | some R0 =>
              rw [h3] at h1
              simp only at h1
              cases h4 : mapO (PV.to (idx ks) (idx ts) 4) R0.cells with
              | none => rw [h4] at h1; cases h1
              | some cs => rw [h4] at h1; cases h1; exact ⟨R0, cs, by first | exact h3 | rfl, rfl, h4, LessL.refl _⟩
    exact key ks fr' hfr
  · have key : ∀ (l : List (Nat × PV)), mapO (oneT s ks ts) l = some (l.map Prod.snd) → SelTm s ks ts 0 l := by
      intro l
      induction l with
      | nil => intro h; trivial
      | cons x l ih =>
        intro h
        obtain ⟨t, q⟩ := x
        simp only [mapO] at h
        cases h1 : oneT s ks ts (t, q) with
        | none => rw [h1] at h; cases h
        | some p =>
          rw [h1] at h
          cases h2 : mapO (oneT s ks ts) l with
          | none => rw [h2] at h; cases h
          | some ps =>
            rw [h2] at h
            simp only [List.map_cons, Option.some.injEq, List.cons.injEq] at h
            obtain ⟨rfl, rfl⟩ := h
            refine ⟨?_, ih h2⟩
            have h1 : (match s.tm.get t with | some p => PV.to (idx ks) (idx ts) 4 p | none => none) = some p := h1
            cases h3 : s.tm.get t with
            | none => rw [h3] at h1; cases h1
            | some p0 => rw [h3] at h1; exact ⟨p0, _, by first | exact h3 | rfl, h1, .refl _⟩
    exact key es hes

theorem Weak.one {s : PS} (ks ts : List Nat) {es : List (Nat × PV)} {fr' : List PRow} {tk' : List Nat} (h : (selB s.r0 s.fr.length ks, selB s.t0 s.tk.length ts, pickN s.tk ts, mapO (oneR s ks ts) ks, mapO (oneT s ks ts) es) = (true, true, tk', some fr', some (es.map Prod.snd))) : Weak s (PS.ofm s.ms s.n es fr' tk' s.r0 s.t0) := by
  simp only [Prod.mk.injEq] at h
  exact Weak.same ks ts h.1 h.2.1 h.2.2.1 h.2.2.2.1 h.2.2.2.2

/-! ### Several operations, and a state in other words -/
section ops
variable {rnd : Option Nat} {all os : List Oper} {s : PS} {Q : PS → Prop}
theorem pRun_drop (n : Nat) : ∀ {os os' : List Oper} {s s' : PS}, pRun P all n os s = some (os', s') → os' = os.drop n := by
  induction n with
  | zero => intro os os' s s' h; cases h; rfl
  | succ n ih =>
    intro os os' s s' h
    cases os with
    | nil => cases h; rfl
    | cons o os =>
      simp only [pRun] at h
      cases hw : pWanted all s o with
      | none => rw [hw] at h; cases h
      | some b =>
        rw [hw] at h
        cases b with
        | true =>
          simp only at h
          cases hp : pOp P s o.op with
          | none => rw [hp] at h; cases h
          | some r =>
            rw [hp] at h
            cases r with
            | pure p => exact ih (pick_some h).2
            | mem p fr tk => exact ih (pick_some h).2
        | false => exact ih (pick_some h).2

def runW (P : Program) (all : List Oper) (n : Nat) (os : List Oper) (s : PS) (ks ts : List Nat) (es : List (Nat × PV)) : Option (Bool × Bool × List Nat × Option (List PRow) × Option (List PV)) :=
  match pRun P all n os s with
  | some (_, s1) => some (selB s1.r0 s1.fr.length ks, selB s1.t0 s1.tk.length ts, pickN s1.tk ts, mapO (oneR s1 ks ts) ks, mapO (oneT s1 ks ts) es)
  | none => none

theorem pRun_const (n : Nat) : ∀ {os os' : List Oper} {s s' : PS}, pRun P all n os s = some (os', s') → s'.n = s.n ∧ s'.r0 = s.r0 ∧ s'.t0 = s.t0 ∧ s'.ms = s.ms := by
  have hu : ∀ (s : PS) (d : Option Tmp) (p : PV), (s.upd d p).n = s.n ∧ (s.upd d p).r0 = s.r0 ∧ (s.upd d p).t0 = s.t0 ∧ (s.upd d p).ms = s.ms := fun s d p => by
    obtain ⟨tm, n, fr, tk, r0, t0, ms⟩ := s
    cases d <;> exact ⟨rfl, rfl, rfl, rfl⟩
  induction n with
  | zero => intro os os' s s' h; cases h; exact ⟨rfl, rfl, rfl, rfl⟩
  | succ n ih =>
    intro os os' s s' h
    cases os with
    | nil => cases h; exact ⟨rfl, rfl, rfl, rfl⟩
    | cons o os =>
      simp only [pRun] at h
      cases hw : pWanted all s o with
      | none => rw [hw] at h; cases h
      | some b =>
        rw [hw] at h
        cases b with
        | true =>
          simp only at h
          cases hp : pOp P s o.op with
          | none => rw [hp] at h; cases h
          | some r =>
            rw [hp] at h
            cases r with
            | pure p =>
              obtain ⟨a, b, c, d⟩ := ih (pick_some h).2
              obtain ⟨a', b', c', d'⟩ := hu s o.dst p
              exact ⟨a.trans a', b.trans b', c.trans c', d.trans d'⟩
            | mem p fr tk =>
              obtain ⟨a, b, c, d⟩ := ih (pick_some h).2
              obtain ⟨a', b', c', d'⟩ := hu (s.mem fr tk) o.dst p
              exact ⟨a.trans a', b.trans b', c.trans c', d.trans d'⟩
        | false =>
          obtain ⟨a, b, c, d⟩ := ih (pick_some h).2
          obtain ⟨a', b', c', d'⟩ := hu s o.dst (.tup [])
          exact ⟨a.trans a', b.trans b', c.trans c', d.trans d'⟩

theorem PO.runK (n : Nat) (ks ts : List Nat) {es : List (Nat × PV)} {fr' : List PRow} {tk' : List Nat} (h : runW P all n os s ks ts es = some (true, true, tk', some fr', some (es.map Prod.snd))) (hq : PO P O rnd all (os.drop n) (PS.ofm s.ms s.n es fr' tk' s.r0 s.t0) Q) : PO P O rnd all os s Q := by
  unfold runW at h
  cases hr : pRun P all n os s with
  | none => rw [hr] at h; cases h
  | some x =>
    obtain ⟨os', s1⟩ := x
    rw [hr] at h
    obtain ⟨e1, e2, e3, e4⟩ := pRun_const n hr
    have hw := Weak.one (s := s1) ks ts (es := es) (fr' := fr') (tk' := tk') (Option.some.inj h)
    rw [e1, e2, e3, e4] at hw
    have hd := pRun_drop n hr
    subst hd
    exact PO.run n hr (PO.weak hw hq)
end ops

/-! ### Where a function ends -/
def retS (P : Program) (fn : Func) (Q : PV → List PRow → List Nat → Prop) : AX → PS → Prop := fun x s => isRet x ∧ s.ms = [] ∧ ∃ (p : PV) (ks ts : List Nat) (p1 p' : PV) (fr' : List PRow),
  pResults P s fn.results.toList = some p ∧ (selB s.r0 s.fr.length ks, selB s.t0 s.tk.length ts, mapO (oneR s ks ts) ks, PV.to (idx ks) (idx ts) 4 p) = (true, true, some fr', some p1) ∧ Less 0 0 p1 p' ∧ Q p' fr' (pickN s.tk ts)

theorem oneR_at {s : PS} {ks ts : List Nat} {fr' : List PRow} (h : mapO (oneR s ks ts) ks = some fr') : ks.length = fr'.length ∧ ∀ (i k : Nat) (R : PRow), ks[i]? = some k → fr'[i]? = some R → SelRow s.fr (idx ks) (idx ts) k R := by
  obtain ⟨h1, h2⟩ := mapO_at h
  refine ⟨h1, fun i k R hi hR => ?_⟩
  have h3 := h2 i k R hi hR
  unfold oneR at h3
  cases h4 : s.fr[k]? with
  | none => rw [h4] at h3; cases h3
  | some R0 =>
    rw [h4] at h3
    simp only at h3
    cases h5 : mapO (PV.to (idx ks) (idx ts) 4) R0.cells with
    | none => rw [h5] at h3; cases h3
    | some cs => rw [h5] at h3; cases h3; exact ⟨R0, h4, rfl, h5⟩

theorem PF.enterS {f : FuncId} {fn : Func} {c : Code} {args : List PV} {fr : List PRow} {tk : List Nat} {Q : PV → List PRow → List Nat → Prop} (hf : P.funcs[f]? = some fn) (hc : fn.body = some c) (hn : Nat.ble args.length fn.ntmps = true) (hm : Nat.ble args.length 1000000 = true)
    (hx : (fn.name == "runtime.NumGoroutine") = false) (hk : nilKnown O f args = none) (h : PC P O none c (PS.start fn.ntmps args fr tk) (retS P fn Q)) : PF P O f args fr tk Q := by
  intro e H vs hI hX ha
  rw [Nat.ble_eq] at hn hm
  refine WF1.call (bodyOf_mk hf hc (by rw [← ha.1]; exact hn) (by rw [← ha.1]; exact hm) hx) ?_ ?_
  · exact known_of hk ha.1
  · refine (h (ctx e tk H) e (startAct fn.ntmps vs) H ⟨RelH.start hI hX, rfl, .nil rfl, hI.rlen, hI.tlen, fun t p ht => ?_⟩ (fun l hl => by cases hl)).mono fun x a' H' ⟨e', s', h1, h2, hms, p, ks, ts, p1, p', fr', h3, h5, h6, h4⟩ => ?_
    · simp only [PS.start] at ht
      rw [start_get args 0 _ (by omega) t] at ht
      split at ht
      · obtain ⟨v, hv, hv'⟩ := ha.at ht
        refine ⟨v, ?_, hv'⟩
        unfold startAct
        simp only
        rw [start_get vs 0 _ (by rw [← ha.1]; omega) t, if_pos (by rw [← ha.1]; assumption)]
        exact hv
      · rw [T.get_full] at ht; cases ht
    · obtain ⟨v, k1, k2⟩ := h1.results h3
      simp only [Prod.mk.injEq] at h5
      obtain ⟨g1, g2, g3, g4⟩ := h5
      obtain ⟨m1, m2⟩ := oneR_at g3
      have hX' : ∀ id fam en, Stay e' s'.tk H' id fam en → e'.X id fam en := fun id fam en hs => hs.x
      have hsel := sel_mk h1.h.inv (selB_ok g1) (selB_ok g2) hX'
      have h7 := h1.sel (selB_ok g1) (selB_ok g2) m1 m2 (tm1 := .nil) (fun t q h => by cases h)
      refine ⟨?_, (hms ▸ h1.marks).none, v, k1, e'.sel ks ts e'.X, fr', pickN s'.tk ts, p', h7.h.back, ?_, h4⟩
      · cases x <;> first | exact .inl rfl | exact .inr rfl | exact h2.elim
      · exact (k2.sel hsel 4 g4).wk (fun k a b => by omega) h6

def endP (P : Program) (s : PS) (rs : List ResultVar) (ks ts : List Nat) : Option PV := match pResults P s rs with
  | some p => PV.to (idx ks) (idx ts) 4 p
  | none => none
theorem retSK {s : PS} {fn : Func} {Qf : PV → List PRow → List Nat → Prop} (ks ts : List Nat) {p1 p' : PV} {fr' : List PRow} (h : (endP P s fn.results.toList ks ts, selB s.r0 s.fr.length ks, selB s.t0 s.tk.length ts, mapO (oneR s ks ts) ks, s.ms) = (some p1, true, true, some fr', [])) (hl : Less 0 0 p1 p') (hq : Qf p' fr' (pickN s.tk ts)) : retS P fn Qf .ret s := by
  simp only [Prod.mk.injEq] at h
  obtain ⟨h1, h2, h3, h4, hms⟩ := h
  unfold endP at h1
  cases hp : pResults P s fn.results.toList with
  | none => rw [hp] at h1; cases h1
  | some p => rw [hp] at h1; exact ⟨trivial, hms, p, ks, ts, p1, p', fr', hp, by rw [h2, h3, h4]; exact congrArg (fun z => (true, true, some fr', z)) h1, hl, hq⟩
theorem retSN {s : PS} {fn : Func} {Qf : PV → List PRow → List Nat → Prop} (ks ts : List Nat) {p1 p' : PV} {fr' : List PRow} (h : (endP P s fn.results.toList ks ts, selB s.r0 s.fr.length ks, selB s.t0 s.tk.length ts, mapO (oneR s ks ts) ks, s.ms) = (some p1, true, true, some fr', [])) (hl : Less 0 0 p1 p') (hq : Qf p' fr' (pickN s.tk ts)) : retS P fn Qf .normal s := by
  have := retSK ks ts h hl hq
  exact ⟨trivial, this.2⟩

theorem elim_l {α β γ : Type} {f : α → γ} {g : β → γ} {x : α} {r : γ} (h : Sum.elim f g (.inl x) = r) : f x = r := h

/-! ### Numbers -/
def w (x : Int) : Int := IntKind.i64.wrap x
def w_u64 (x : Int) : Int := IntKind.u64.wrap x

end
end Go.Eng
/-
  A region whose order is open, where reads and stores lie side by side: what a read tells does not turn by the stores that it need not wait for.
-/
namespace Go.Eng
noncomputable section
variable {P : Program} {O : Orc}

/-- may the region be gone through in this order, but for what reads tell? -/
def PV.okd : PV → Bool
  | .val v => (match v with | .bool _ => true | .int _ _ => true | .string _ => true | .pointer _ => true | .slice _ _ _ => true | .nilFunc => true | .nilIface => true | .map _ => true | _ => false)
  | .list _ _ _ => true
  | .ptr _ _ => true
  | .eptr _ _ => true
  | .sl _ _ _ _ => true
  | .mp _ => true
  | _ => false
def PV.okd2 : PV → Bool
  | .agg l => l.all PV.okd
  | p => p.okd

theorem okd_veq {e : Env} {tk : List Nat} {H : AH} {b : Bool} {p : PV} {v : Value} (h : RV e tk H b p v) (hp : p.okd = true) (n : Nat) : veq n v v = true := by
  cases p with
  | val u =>
    rw [h.bool_inv]
    cases u <;> first | (cases hp; done) | simp [veq]
  | list sz l t => obtain ⟨a, c, rfl⟩ := len_slice h; simp [veq]
  | ptr k off => cases h; simp [veq]
  | eptr c o => cases h; simp [veq]
  | sl k o n c => cases h; simp [veq]
  | mp k => cases h; simp [veq]
  | _ => cases hp

theorem okd2_veq {e : Env} {tk : List Nat} {H : AH} {b : Bool} {p : PV} {v : Value} (h : RV e tk H b p v) (hp : p.okd2 = true) : veq 3 v v = true := by
  cases p with
  | agg l =>
    cases h with
    | @agg _ _ vs hl hh =>
      have key : (vs.zip vs).all (fun (x, y) => veq 2 x y) = true := by
        rw [List.all_eq_true]
        rintro ⟨x, y⟩ hx
        obtain ⟨i, hi, hxy⟩ := List.mem_iff_getElem.1 hx
        simp only [List.getElem_zip, Prod.mk.injEq] at hxy
        obtain ⟨rfl, rfl⟩ := hxy
        have hi' : i < vs.length := by simpa using hi
        obtain ⟨q, hq⟩ := get_of_lt (l := l) (i := i) (by rw [hl]; exact hi')
        exact okd_veq (hh i q _ hq (List.getElem?_eq_getElem hi')) (List.all_eq_true.1 hp q (List.mem_of_getElem? hq)) 2
      simp only [veq, beq_self_eq_true, Bool.true_and]
      exact key
  | _ => exact okd_veq h hp 3

theorem aLoad_same {H M : AH} {t : TypeId} {id off : Nat} (h : M.get id = H.get id) : aLoad P M t id off = aLoad P H t id off := by
  unfold aLoad AH.row
  rw [h]

theorem RelA.put {C : Ctx} {e : Env} {s : PS} {a : AAct} {H : AH} (hR : RelA C e s a H) {d : Option Tmp} {v : Value} (h : s.can d = true) : a.put d v = .ok (a.upd d v) := AAct.put_can (hR.can h)

end
end Go.Eng
