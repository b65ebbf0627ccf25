/-
  The calculus' operations: lists and strings; several operations at once.
-/
import Derived.Test.YtbcgpjfjfnnlcaaM8
set_option linter.unusedSimpArgs false
set_option linter.unusedVariables false
namespace Go.Eng
noncomputable section
variable {P : Program} {O : Orc}

section ops
variable {rnd : Option Nat} {all os : List Oper} {s : PS} {Q : PS → Prop} {d : Option Tmp} {ty : TypeId} {pst : String} {af : Array Edge} {gu : Option (Nat × Bool)}

/-- an operation that leaves the memory as it is -/
theorem OpSame.mk' {o : Oper} {p : PV} (hd : deferOf o.op = none) (h : ∀ C e a H, RelA C e s a H → ∃ n v, aOp P (oRun P O n) a H o = .ok (v, H) ∧ RV e s.tk H true p v) : OpSame P O s o p := ⟨hd, h⟩

theorem len_slice {b : Bool} {e : Env} {tk : List Nat} {H : AH} {sz : Nat} {l : List (List PV)} {t : Option Nat} {v : Value} (h : RV e tk H b (.list sz l t) v) : ∃ a c, v = .slice a l.length c := by
  cases h with
  | lnil ht => exact ⟨_, _, rfl⟩
  | list => exact ⟨_, _, rfl⟩

theorem len_ok {x : Operand} {t el sz n : Nat} {l : List (List PV)} {tko : Option Nat} (ht : P.underlying t = some (.slice el)) (hx : s.ev x = some (.list sz l tko)) (hl : l.length = n) : OpSame P O s ⟨d, .call ⟨.builtin .len, #[x], #[t]⟩, ty, pst, af, gu⟩ (.val (.int .i64 n)) :=
  .mk' rfl fun C e a H hR => by
    obtain ⟨v, h1, h2⟩ := hR.ev hx
    obtain ⟨ad, c, rfl⟩ := len_slice h2
    refine ⟨0, .int .i64 n, ?_, .val rfl⟩
    simp only [aOp, allR, AAct.ev_eval h1, bind, Except.bind, aLen, ht, hl]

/-- the length of what is known -/
def pLen (P : Program) (t : TypeId) : PV → Option PV
  | .val (.string s) => match P.underlying t with
    | some .string => some (.val (.int .i64 s.size))
    | _ => none
  | .val (.slice none 0 0) => match P.underlying t with
    | some (.slice _) => some (.val (.int .i64 0))
    | _ => none
  | .sl _ _ n _ => match P.underlying t with
    | some (.slice _) => some (.val (.int .i64 n))
    | _ => none
  | _ => match P.underlying t with
    | some (.array n _) => some (.val (.int .i64 n))
    | _ => none

/-! ### Parts of lists -/
theorem natIn_at {k : IntKind} {m : Int} {n most : Nat} (h : m.toNat = n) (h0 : 0 ≤ m) (hm : n ≤ most) : natIn (.int k m) most = .ok n := by
  simp only [natIn]
  rw [if_pos (by omega), h]

theorem indexAddr_ok {t el sz : Nat} {x i : Operand} {l : List (List PV)} {tko : Option Nat} {k : IntKind} {m : Int} {cs : List PV} (ht : P.underlying t = some (.slice el)) (hs : tSize P el = .ok sz) (hx : s.ev x = some (.list sz l tko)) (hi : s.ev i = some (.val (.int k m)))
    (h0 : 0 ≤ m) (hc : l[m.toNat]? = some cs) : OpSame P O s ⟨d, .indexAddr t x i, ty, pst, af, gu⟩ (.eptr cs 0) :=
  .mk' rfl fun C e a H hR => by
    obtain ⟨v, h1, h2⟩ := hR.ev hx
    obtain ⟨u, h3, h4⟩ := hR.ev hi
    have e1 := h4.bool_inv; subst e1
    have hlt := lt_of_get hc
    cases h2 with
    | lnil ht => simp at hlt
    | @list _ _ _ _ id off c n r w hr hn hst he hcp hw hz hp hv hh htt =>
      refine ⟨0, .pointer (some ⟨id, off + m.toNat * sz, none⟩), ?_, ?_⟩
      · simp only [aOp, AAct.ev_eval h1, AAct.ev_eval h3, bind, Except.bind, ht, natIn_at (m := m) (n := m.toNat) rfl h0 (show m.toNat ≤ l.length - 1 by omega), hs]
        rw [if_pos hlt]
      · have hcl := hz _ _ hc
        have hmul : m.toNat * sz + sz ≤ l.length * sz := by
          have h1 : (m.toNat + 1) * sz ≤ l.length * sz := Nat.mul_le_mul_right _ hlt
          rw [Nat.add_mul, Nat.one_mul] at h1; exact h1
        have := RV.eptr (b := true) (off := 0) (base := off + m.toNat * sz) (fun j => w m.toNat j) hr (by omega) hst (fun j p hj => hv _ _ _ _ hc hj) (fun j p hj => hh _ _ _ _ hc hj)
        simpa using this

/-- a bound of a part: left out, or a number that is not below 0 -/
inductive Bnd (s : PS) (dflt : Nat) : Option Operand → Nat → Prop
  | none : Bnd s dflt none dflt
  | some {o : Operand} {k : IntKind} {m : Int} {n : Nat} (h : s.ev o = some (.val (.int k m))) (h0 : 0 ≤ m) (hn : m.toNat = n) : Bnd s dflt (some o) n

def aOptE (a : AAct) (y : Option Operand) : R (Option Value) := match y with
  | some y => do .ok (some (← a.eval y))
  | none => .ok none
theorem aOp_slice {rec : Rec} {a : AAct} {H : AH} {t : TypeId} {x : Operand} {xl xh xm : Option Operand} : aOp P rec a H ⟨d, .slice t x xl xh xm, ty, pst, af, gu⟩ = (do .ok (← aSlice P H t (← a.eval x) (← aOptE a xl) (← aOptE a xh) (← aOptE a xm), H)) := rfl

theorem RelA.bnd {C : Ctx} {e : Env} {a : AAct} {H : AH} (hR : RelA C e s a H) {x : Option Operand} {dflt n most : Nat} (h : Bnd s dflt x n) (hm : n ≤ most) :
    ∃ v, aOptE a x = .ok v ∧ optIn v most dflt = .ok n ∧ (v.isNone = x.isNone) := by
  cases h with
  | none => exact ⟨none, rfl, rfl, rfl⟩
  | @some o k m n h h0 hn =>
    obtain ⟨u, h3, h4⟩ := hR.ev h
    have e1 := h4.bool_inv; subst e1
    exact ⟨some (.int k m), by simp only [aOptE, AAct.ev_eval h3, bind, Except.bind], by simp only [optIn]; exact natIn_at hn h0 hm, rfl⟩

theorem slice_ok {t el sz lo hi : Nat} {x : Operand} {xl xh : Option Operand} {l l2 : List (List PV)} {tko : Option Nat} (ht : P.underlying t = some (.slice el)) (hs : tSize P el = .ok sz) (hx : s.ev x = some (.list sz l tko)) (h1 : Bnd s 0 xl lo) (h2 : Bnd s l.length xh hi)
    (hle : lo ≤ hi) (hle2 : hi ≤ l.length) (h3 : (l.take hi).drop lo = l2) : OpSame P O s ⟨d, .slice t x xl xh none, ty, pst, af, gu⟩ (.list sz l2 none) :=
  .mk' rfl fun C e a H hR => by
    subst h3
    obtain ⟨v, k1, k2⟩ := hR.ev hx
    cases k2 with
    | lnil htt =>
      have e1 : hi = 0 := by simp at hle2; exact hle2
      subst e1
      have e2 : lo = 0 := by omega
      subst e2
      obtain ⟨vh, m1, m2, m3⟩ := hR.bnd h2 (Nat.zero_le 0)
      obtain ⟨vl, m4, m5, m6⟩ := hR.bnd h1 (Nat.zero_le 0)
      refine ⟨0, .slice none 0 0, ?_, .lnil (fun k hk => by cases hk)⟩
      simp only [List.length_nil] at m2
      have m0 : aOptE a none = .ok none := rfl
      have m7 : optIn (none : Option Value) 0 0 = .ok 0 := rfl
      rw [aOp_slice]
      simp only [AAct.ev_eval k1, m1, m4, m0, aSlice, ht, bind, Except.bind, aBounds, m7, Option.isSome_none, Bool.and_false, Bool.false_eq_true, if_false, m2, m5, Nat.le_refl, and_self, if_true, hs]
    | @list _ _ _ _ id off c n r w hr hn hst he hcp hw hz hp hv hh htt =>
      obtain ⟨vh, m1, m2, m3⟩ := hR.bnd h2 (show hi ≤ c by omega)
      obtain ⟨vl, m4, m5, m6⟩ := hR.bnd h1 hle
      have hrow : H.row id = .ok r := by unfold AH.row; rw [hr]
      have hlen : ((l.take hi).drop lo).length = hi - lo := by rw [List.length_drop, List.length_take]; omega
      have hidx : ∀ (i : Nat) (cs : List PV), ((l.take hi).drop lo)[i]? = some cs → l[lo + i]? = some cs := fun i cs h => by
        rw [List.getElem?_drop, List.getElem?_take] at h
        split at h
        · exact h
        · cases h
      have hmul : lo * sz + (hi - lo) * sz ≤ l.length * sz := by
        rw [← Nat.add_mul, show lo + (hi - lo) = hi by omega]; exact Nat.mul_le_mul_right _ hle2
      refine ⟨0, .slice (some ⟨id, off + lo * sz, none⟩) (hi - lo) (c - lo), ?_, ?_⟩
      · have m0 : aOptE a none = .ok none := rfl
        have m7 : optIn (none : Option Value) c c = .ok c := rfl
        rw [aOp_slice]
        simp only [AAct.ev_eval k1, m1, m4, m0, aSlice, ht, bind, Except.bind, aBounds, m7, Option.isSome_none, Bool.and_false, Bool.false_eq_true, if_false, m2, m5, hs, hrow, he, true_or, if_true]
        rw [if_pos ⟨hle, by omega⟩]
      · rw [← hlen]
        refine .list (fun i j => w (lo + i) j) hr (n := n) ?_ hst he (by rw [hlen]; omega) ?_ (fun i cs hi' => hz _ _ (hidx i cs hi')) (fun i cs j p hi' hj => hp _ _ j p (hidx i cs hi') hj) (fun i cs j p hi' hj => ?_) (fun i cs j p hi' hj => hh _ _ j p (hidx i cs hi') hj) (fun k hk => by cases hk)
        · rw [hlen]; omega
        · rw [hlen]; omega
        · have := hv _ _ j p (hidx i cs hi') hj
          rw [show off + lo * sz + i * sz + j = off + (lo + i) * sz + j by rw [Nat.add_mul]; omega]
          exact this

/-! ### Appends -/
theorem append_list_ok {t u el sz bytes k n n2 : Nat} {x y : Operand} {zs : List Value} {l m l2 : List (List PV)} {tko : Option Nat} (ht : P.underlying t = some (.slice el)) (hu : tZeros P (some u) = .ok false) (hs : tSize P el = .ok sz) (hb : tBytes P el = .ok bytes) (hz : tZero P el = .ok zs) (hs0 : Nat.beq sz 0 = false) (hb0 : Nat.beq bytes 0 = false)
    (hx : s.ev x = some (.list sz l (some k))) (hy : s.ev y = some (.list sz m tko)) (hn : s.tk[k]? = some n) (hln : l.length = n) (hbig : (5 * (l.length + m.length) + 768) * bytes ≤ 1125899906842624) (h2 : l ++ m = l2) (hn2 : l.length + m.length = n2) :
    OpOK P O s ⟨d, .call ⟨.builtin .append, #[x, y], #[t, u]⟩, ty, pst, af, gu⟩ (.list sz l2 (some k)) s.fr (s.tk.set k n2) := by
  subst h2
  subst hn2
  subst hln
  refine ⟨rfl, fun C e a H hR => ?_⟩
  obtain ⟨v, k1, k2⟩ := hR.ev hx
  obtain ⟨w, k3, k4⟩ := hR.ev hy
  obtain ⟨new, m1, m2⟩ := appended_list k4 hs
  obtain ⟨e', H', v', a1, a2, a3, _⟩ := append_ok hR.h.inv hR.h.xc ht hu hs hb hz hs0 hb0 k2 hn m1 m2 hbig
  exact ⟨0, v', H', e', by simp only [aOp, allR, AAct.ev_eval k1, AAct.ev_eval k3, bind, Except.bind, a1], a2, a3⟩

/-- a list that is nil may grow -/
theorem RelA.nilTok {C : Ctx} {e : Env} {a : AAct} {H : AH} (hR : RelA C e s a H) : RelA C (e.tok none) (s.mem s.fr (s.tk ++ [0])) a H ∧ Grow e s.tk H (e.tok none) (s.tk ++ [0]) H := by
  have hI := hR.h.inv
  have hx : Extn (ctx e s.tk H) (e.tok none) (s.tk ++ [0]) := by
    refine ⟨⟨[], by simp [ctx, Env.tok], by simp⟩, fun t τ ht => ?_, fun t τ ht => get_app_old ht, fun t n ht => ⟨n, get_app_old ht, Nat.le_refl _, fun _ => ?_⟩⟩
    · rcases get_app ht with ⟨_, h1⟩ | ⟨_, h1⟩
      · exact .inl h1
      · cases h1
    · show (e.toks ++ [none])[t]? = e.toks[t]?
      rw [List.getElem?_append_left (by rw [hI.tlen]; exact lt_of_get ht)]
  have hf : Frame (ctx e s.tk H) H := Frame.refl (ctx e s.tk H)
  have g := grow_of hx hf rfl hI.tlen
  have st : Step e s.tk H (e.tok none) s.fr (s.tk ++ [0]) H := by
    refine ⟨⟨hI.wf, hI.rlen, hI.rnd, fun k id R hk hR' => ?_, by simp [Env.tok, hI.tlen], fun t t' τ τ' ht ht' hf => ?_, fun t τ ht => ?_, fun t τ ht hm => ?_⟩, hx, hf, rfl⟩
    · exact (hI.row k id R hk hR').stay rfl rfl fun us h8 => h8.grow g
    · rcases get_app ht with ⟨_, h1⟩ | ⟨h0, h1⟩ <;> rcases get_app ht' with ⟨_, h2⟩ | ⟨h3, h2⟩
      · exact hI.tsep t t' τ τ' h1 h2 hf
      · cases h2
      · cases h1
      · omega
    · rcases get_app ht with ⟨_, h1⟩ | ⟨h0, h1⟩
      · exact hI.tlt t τ h1
      · cases h1
    · rcases get_app ht with ⟨_, h1⟩ | ⟨h0, h1⟩
      · exact hI.tfr t τ h1 hm
      · cases h1
  exact ⟨⟨hR.h.step st, hR.n, hR.marks.step (fun m hm => st.other hR.h.inv hm (fun r e => by cases e) (fun _ _ e => by cases e)), hR.r0, hR.t0, fun t p ht => let ⟨v, h1, h2⟩ := hR.tm t p ht; ⟨v, h1, h2.grow g⟩⟩, g⟩

theorem nil_list {e : Env} {tk : List Nat} {H : AH} {b : Bool} {sz : Nat} {v : Value} (h : RV e tk H b (.val (.slice none 0 0)) v) : RV e tk H b (.list sz [] none) v := by
  rw [h.bool_inv]; exact .lnil (fun k hk => by cases hk)

/-! ### Picks, guards -/
theorem pickT_ok {c x y : Operand} {b : Bool} {p : PV} (hc : s.ev c = some (.val (.bool b))) (hb : b = true) (hx : s.ev x = some p) : OpSame P O s ⟨d, .pick c x y, ty, pst, af, gu⟩ p :=
  .mk' rfl fun C e a H hR => by
    obtain ⟨v, h1, h2⟩ := hR.ev hc
    have e1 := h2.bool_inv; subst e1
    obtain ⟨w, h3, h4⟩ := hR.ev hx
    subst hb
    exact ⟨0, w, by simp only [aOp, AAct.ev_eval h1, AAct.ev_eval h3, bind, Except.bind, if_true], h4⟩
theorem pickF_ok {c x y : Operand} {b : Bool} {p : PV} (hc : s.ev c = some (.val (.bool b))) (hb : b = false) (hx : s.ev y = some p) : OpSame P O s ⟨d, .pick c x y, ty, pst, af, gu⟩ p :=
  .mk' rfl fun C e a H hR => by
    obtain ⟨v, h1, h2⟩ := hR.ev hc
    have e1 := h2.bool_inv; subst e1
    obtain ⟨w, h3, h4⟩ := hR.ev hx
    subst hb
    exact ⟨0, w, by simp only [aOp, AAct.ev_eval h1, AAct.ev_eval h3, bind, Except.bind, Bool.false_eq_true, if_false], h4⟩

/-! ### Several operations at once -/
inductive PR where
  | pure (p : PV)
  | mem (p : PV) (fr : List PRow) (tk : List Nat)

def pOp (P : Program) (s : PS) (op : Op) : Option PR :=
  match op with
  | .box _ x => match s.ev x with
    | some p => some (.mem (.ptr s.fr.length 0) (s.fr ++ [⟨0, p.cells⟩]) s.tk)
    | none => none
  | .alloc t => match tZero P t with
    | .ok zs => pick (zs.all plainCell) (some (.mem (.ptr s.fr.length 0) (s.fr ++ [⟨0, zs.map .val⟩]) s.tk)) none
    | .error _ => none
  | .store t x y => match s.ev x, s.ev y, tSize P t with
    | some (.ptr k off), some p, .ok n => match s.fr[k]? with
      | some R => pick (Nat.beq p.cells.length n) (pick (p.cells.all PV.plain) (pick (okW R (off + p.cells.length)) (some (.mem (.tup []) (s.fr.set k ⟨R.esz, pSplice R.cells off p.cells⟩) s.tk)) none) none) none
      | none => none
    | _, _, _ => none
  | .build t parts => match pBuild P s t parts.toList with
    | some p => some (.pure p)
    | none => none
  | .buildSlice t len parts => match pLit P s t len parts.toList with
    | some (sz, l) => some (.mem (.list sz l (some s.tk.length)) s.fr (s.tk ++ [l.length]))
    | none => none
  | .call { callee := .builtin .len, args := _, argTypes := _ } => none
  | op => match pPure P s op with
    | some p => some (.pure p)
    | none => none

def PR.ok (P : Program) (O : Orc) (s : PS) (o : Oper) : PR → Prop
  | .pure p => OpOK P O s o p s.fr s.tk
  | .mem p fr tk => OpOK P O s o p fr tk

theorem pOp_ok {o : Oper} {r : PR} (h : pOp P s o.op = some r) : r.ok P O s o := by
  have gen : (match pPure P s o.op with | some p => some (PR.pure p) | none => none) = some r → r.ok P O s o := fun h => by
    cases hp : pPure P s o.op with
    | none => rw [hp] at h; cases h
    | some p => rw [hp] at h; cases h; exact pPure_ok hp
  obtain ⟨d, op, ty, ps, af, gu⟩ := o
  cases op with
  | box t x =>
    simp only [pOp] at h
    cases hx : s.ev x with
    | none => rw [hx] at h; cases h
    | some p => rw [hx] at h; cases h; exact box_ok hx
  | alloc t =>
    simp only [pOp] at h
    cases hz : tZero P t with
    | error n => rw [hz] at h; cases h
    | ok zs =>
      rw [hz] at h
      obtain ⟨hp, h⟩ := pick_some h
      cases h; exact alloc_ok hz hp
  | store t x y =>
    simp only [pOp] at h
    cases hx : s.ev x with
    | none => rw [hx] at h; cases h
    | some q =>
      cases hy : s.ev y with
      | none => rw [hx, hy] at h; cases q <;> cases h
      | some p =>
        cases hn : tSize P t with
        | error n => rw [hx, hy, hn] at h; cases q <;> cases h
        | ok n =>
          rw [hx, hy, hn] at h
          cases q with
          | ptr k off =>
            simp only at h
            cases hk : s.fr[k]? with
            | none => rw [hk] at h; cases h
            | some R =>
              rw [hk] at h
              obtain ⟨h1, h⟩ := pick_some h
              obtain ⟨h2, h⟩ := pick_some h
              obtain ⟨h3, h⟩ := pick_some h
              cases h
              exact store_ok hx hy hn h1 hk h2 h3
          | _ => cases h
  | build t parts =>
    simp only [pOp] at h
    cases hb : pBuild P s t parts.toList with
    | none => rw [hb] at h; cases h
    | some p => rw [hb] at h; cases h; exact (build_ok hb).ok
  | buildSlice t len parts =>
    simp only [pOp] at h
    cases hb : pLit P s t len parts.toList with
    | none => rw [hb] at h; cases h
    | some r => obtain ⟨sz, l⟩ := r; rw [hb] at h; cases h; exact buildSlice_ok hb
  | call c =>
    obtain ⟨cal, xs, ts⟩ := c
    cases cal with
    | builtin b => cases b <;> first | exact gen h | (cases h; done)
    | _ => exact gen h
  | _ => exact gen h

def pRun (P : Program) (all : List Oper) : Nat → List Oper → PS → Option (List Oper × PS)
  | 0, os, s => some (os, s)
  | _ + 1, [], s => some ([], s)
  | n + 1, o :: os, s => match pWanted all s o with
    | some true => match pOp P s o.op with
      | some (.pure p) => pick (s.can o.dst) (pRun P all n os (s.upd o.dst p)) none
      | some (.mem p fr tk) => pick (s.can o.dst) (pRun P all n os ((s.mem fr tk).upd o.dst p)) none
      | none => none
    | some false => pick (s.can o.dst) (pRun P all n os (s.upd o.dst (.tup []))) none
    | none => none

theorem PO.run (n : Nat) : ∀ {os os' : List Oper} {s s' : PS}, pRun P all n os s = some (os', s') → PO P O rnd all os' s' Q → PO P O rnd all os s Q := by
  induction n with
  | zero => intro os os' s s' h hq; cases h; exact hq
  | succ n ih =>
    intro os os' s s' h hq
    cases os with
    | nil => cases h; exact hq
    | cons o os =>
      simp only [pRun] at h
      cases hw : pWanted all s o with
      | none => rw [hw] at h; cases h
      | some b =>
        rw [hw] at h
        cases b with
        | true =>
          simp only at h
          cases hp : pOp P s o.op with
          | none => rw [hp] at h; cases h
          | some r =>
            rw [hp] at h
            have hok := pOp_ok (O := O) hp
            cases r with
            | pure p =>
              obtain ⟨hc, h⟩ := pick_some h
              exact PO.one hw hok hc (ih h hq)
            | mem p fr tk =>
              obtain ⟨hc, h⟩ := pick_some h
              exact PO.one hw hok hc (ih h hq)
        | false =>
          obtain ⟨hc, h⟩ := pick_some h
          exact PO.not hw hc (ih h hq)

theorem PC.run {rnd : Option Nat} {i n : Nat} {ops : Array Oper} {z : Code} {s s' : PS} {Q : AX → PS → Prop} (h : pRun P ops.toList n ops.toList s = some ([], s')) (hq : PC P O rnd z s' Q) : PC P O rnd (.seq (.region i ops false) z) s Q :=
  PC.region (PO.run n h (PO.nil hq))

end ops
end
end Go.Eng
