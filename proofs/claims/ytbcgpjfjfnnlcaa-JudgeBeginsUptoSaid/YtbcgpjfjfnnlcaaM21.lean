/-
  What the proofs of loops over functions use.
-/
import Derived.Test.YtbcgpjfjfnnlcaaM20
set_option linter.unusedSimpArgs false
set_option linter.unusedVariables false
namespace Go.Eng
noncomputable section
variable {P : Program} {O : Orc}

def SelT (s : PS) : List (Nat × PV) → Prop
  | [] => True
  | (t, q) :: l => (∃ p, s.tm.get t = some p ∧ Less 0 0 p q) ∧ SelT s l
theorem SelT.at {s : PS} : ∀ {es : List (Nat × PV)} {t : Nat} {q : PV}, SelT s es → (t, q) ∈ es → ∃ p, s.tm.get t = some p ∧ Less 0 0 p q
  | (t', q') :: es, t, q, h, hm => by
    rcases List.mem_cons.1 hm with e1 | hm
    · cases e1; exact h.1
    · exact SelT.at h.2 hm

/-- the same rows and lists, fewer temporaries -/
theorem Weak.tms {s : PS} {es : List (Nat × PV)} (h : SelT s es) : Weak s (PS.ofm s.ms s.n es s.fr s.tk s.r0 s.t0) := fun C e a H hR =>
  ⟨e, ⟨hR.h, hR.n, hR.marks, hR.r0, hR.t0, fun t q hq => by
    obtain ⟨p, h1, h2⟩ := h.at (of_get es t q hq)
    obtain ⟨v, h3, h4⟩ := hR.tm t p h1
    exact ⟨v, h3, h4.wk (fun k a b => by omega) h2⟩⟩⟩

section
variable {s : PS} {d : Option Tmp} {ty : TypeId} {pst : String} {af : Array Edge} {gu : Option (Nat × Bool)}
/-- a cell of a row that is known -/
theorem load_row {t : TypeId} {x : Operand} {k off : Nat} {R : PRow} {p : PV} (hx : s.ev x = some (.ptr k off)) (hr : s.fr[k]? = some R) (ha : tAgg P t = .ok false) (hc : R.cells[off]? = some p) (hz : Nat.beq R.esz mapE = false := by rfl) : OpSame P O s ⟨d, .load t x, ty, pst, af, gu⟩ p :=
  .mk' rfl fun C e a H hR => by
    obtain ⟨v, h1, h2⟩ := hR.ev hx
    obtain ⟨id, o, u, h3, h4, h5⟩ := hR.load (P := P) (t := t) (q := p) h2 (by simp only [pLoad, hr, hz, ha, hc])
    exact ⟨0, u, by simp only [aOp, AAct.ev_eval h1, bind, Except.bind, h3, h4], h5⟩
end

section y
variable {C : Ctx} {l : Nat} {r : ALoop} {s : PS} {Q : Option Code → AX → PS → Prop} {p : Option Code} {z : Code}
theorem blockKY.here {id : Nat} (h : goesY P O C l r z Q p s) : blockKY P O C l r id z Q p (.exit id) s := by simp only [blockKY, if_true]; exact h
theorem loopKY.exit {I : Nat → PS → Prop} {k id : Nat} (h : Q p (.exit id) s) : loopKY I k Q p (.exit id) s := by cases p <;> exact h
end y

/-! ### Where a function that went through loops ends: the marks are taken off -/
theorem WF1.callM {f : FuncId} {fn : Func} {c : Code} {vs : List Value} {H : AH} {Q : Value → AH → Prop} (hb : bodyOf P f vs = .ok (fn, c)) (hk : Eng.known O f vs = none)
    (h : WC P O none c (startAct fn.ntmps vs) H (fun e a1 H1 => (e = .normal ∨ e = .ret) ∧ ∃ H2, (∀ rec, aLeave P rec a1.marks H1 = .ok H2) ∧ ∃ v, aResults P H2 a1 fn.results.toList = .ok v ∧ Q v H2)) : WF1 P O f vs H Q := by
  obtain ⟨n, e, a1, H1, h1, h2, H2, h3, v, h4, h5⟩ := h
  refine ⟨n + 1, v, H2, ?_, h5⟩
  simp only [oRun, hk, aStep, hb]
  show (oRun P O n (.code none c (startAct fn.ntmps vs)) H >>= _) = _
  rw [h1]
  rcases h2 with rfl | rfl
  · show (aLeave P (oRun P O n) a1.marks H1 >>= _) = _
    rw [h3]
    show (aResults P H2 a1 fn.results.toList >>= _) = _
    rw [h4]; rfl
  · show (aLeave P (oRun P O n) a1.marks H1 >>= _) = _
    rw [h3]
    show (aResults P H2 a1 fn.results.toList >>= _) = _
    rw [h4]; rfl

theorem RelH.mark {C : Ctx} {e : Env} {fr : List PRow} {tk : List Nat} {m : Nat} {H : AH} (h : RelH C e fr tk H) (hm : H.get m = some (.mark true)) (hl : C.H0.next ≤ m) : RelH C e fr tk (H.set m (.mark false)) ∧ Grow e tk H e tk (H.set m (.mark false)) := by
  have hrow : ∀ {id : Nat} {r : Row}, H.get id = some (.row r) → (H.set m (.mark false)).get id = some (.row r) := fun {id r} hr => by
    rw [AH.get_set, if_neg (fun e => by subst e; rw [hm] at hr; cases hr)]; exact hr
  have hback : ∀ {id : Nat} {r : Row}, (H.set m (.mark false)).get id = some (.row r) → H.get id = some (.row r) := fun {id r} hr => by
    rw [AH.get_set] at hr
    split at hr
    · cases hr
    · exact hr
  have g : Grow e tk H e tk (H.set m (.mark false)) := ⟨Nat.le_refl _, fun _ _ h => h, fun id fam en _ hs => ⟨hs.lt, hs.flt, hs.x, hs.row, hs.tok⟩, fun id r n hr _ => ⟨r, hrow hr, Meta.refl r, fun _ _ => rfl⟩, fun k n hk => ⟨n, hk, Nat.le_refl _, fun _ => rfl⟩⟩
  have hI := h.inv
  refine ⟨⟨⟨⟨fun id o ho => ?_, fun id r hr => hI.wf.fam id r (hback hr), esz_of hI.wf fun id r hr => .inr ⟨id, r, hback hr, rfl, rfl, rfl⟩⟩, hI.rlen, hI.rnd, fun k id R hk hR => ?_, hI.tlen, hI.tsep, hI.tlt, hI.tfr⟩, h.ext, ⟨h.frame.next, fun id r hr hid => ?_, fun id o ho hnr hid => ?_, fun id hlt hno => ?_, fun id r hr => h.frame.fam id r (hback hr)⟩, h.cw, h.x, h.x0⟩, g⟩
  · rw [AH.get_set] at ho
    show id < H.next
    split at ho
    · rename_i e1; rw [e1]; exact hI.wf.lt _ _ hm
    · exact hI.wf.lt _ _ ho
  · obtain ⟨o, h2, h3⟩ := (hI.row k id R hk hR).here
    exact (hI.row k id R hk hR).stay rfl (by rw [AH.get_set, if_neg (fun e => by subst e; rw [hm] at h2; cases h2; rcases h3 with ⟨r, e⟩ | ⟨es, c, e⟩ <;> cases e)]) fun us h8 => h8.grow g
  · obtain ⟨r', k1, k2, k3, k4⟩ := h.frame.row id r hr hid
    exact ⟨r', hrow k1, k2, k3, k4⟩
  · have := h.cw.wf.lt id o ho
    rw [AH.get_set, if_neg (by omega)]; exact h.frame.oth id o ho hnr hid
  · rw [AH.get_set, if_neg (by omega)]; exact h.frame.gone id hlt hno

theorem leave_marks {C : Ctx} {e : Env} {fr : List PRow} {tk : List Nat} (tm : T Value) (n : Nat) : ∀ {l : List ADef} {H : AH}, RelH C e fr tk H → MarksR C.H0.next [none] ⟨tm, n, l⟩ H → ∃ H2, (∀ rec, aLeave P rec l H = .ok H2) ∧ RelH C e fr tk H2 ∧ Grow e tk H e tk H2
  | [], H, hR, hm => ⟨H, fun rec => rfl, hR, ⟨Nat.le_refl _, fun _ _ h => h, fun _ _ _ _ h => h, fun id r n hr _ => ⟨r, hr, Meta.refl r, fun _ _ => rfl⟩, fun k n hk => ⟨n, hk, Nat.le_refl _, fun _ => rfl⟩⟩⟩
  | d :: l, H, hR, hm => by
    have hall : ∀ x ∈ d :: l, MarkR C.H0.next ⟨tm, n, d :: l⟩ H none x := hm.rel
    cases d with
    | call f vs => exact (hall _ List.mem_cons_self).elim
    | mark m =>
      obtain ⟨h3, h4⟩ := hall _ List.mem_cons_self
      obtain ⟨k1, k2⟩ := hR.mark h4 h3
      have hne : ∀ (j m' : Nat), l[j]? = some (.mark m') → m' ≠ m := fun j m' hj e1 => by
        subst e1
        have := hm.nd 0 (j + 1) m' rfl hj
        omega
      have hm' : MarksR C.H0.next [none] ⟨tm, n, l⟩ (H.set m (.mark false)) := by
        refine ⟨fun x hx => ?_, fun i j m' hi hj => ?_⟩
        · have hxy := hall x (List.mem_cons_of_mem _ hx)
          cases x with
          | mark m' =>
            obtain ⟨i, hi⟩ := List.mem_iff_getElem?.1 hx
            exact ⟨hxy.1, by rw [AH.get_set, if_neg (hne i m' hi)]; exact hxy.2⟩
          | call f vs => exact hxy.elim
        · have := hm.nd (i + 1) (j + 1) m' hi hj
          omega
      obtain ⟨H2, q1, q2, q3⟩ := leave_marks tm n k1 hm'
      refine ⟨H2, fun rec => ?_, q2, ?_⟩
      · show (match H.get m with | some (.mark true) => aLeave P rec l (H.set m (.mark false)) | _ => .error 98) = _
        rw [h4]
        exact q1 rec
      · exact ⟨Nat.le_trans k2.next q3.next, fun _ _ h => h, fun id fam en ho hs => ⟨Nat.lt_of_lt_of_le hs.lt (Nat.le_trans k2.next q3.next), Nat.lt_of_lt_of_le hs.flt (Nat.le_trans k2.next q3.next), hs.x, hs.row, hs.tok⟩, fun id r n hr hs => by
          obtain ⟨r1, a1, a2, a3⟩ := k2.row id r n hr hs
          have hs1 := k2.stay id _ _ ⟨_, hr⟩ hs
          obtain ⟨r2, b1, b2, b3⟩ := q3.row id r1 n a1 (by rw [a2.fam, a2.disp]; exact hs1)
          exact ⟨r2, b1, a2.trans b2, fun p hp => (b3 p hp).trans (a3 p hp)⟩, fun k n hk => ⟨n, hk, Nat.le_refl _, fun _ => rfl⟩⟩

def PS.startM (n : Nat) (args : List PV) (fr : List PRow) (tk : List Nat) : PS := ⟨(PS.start n args fr tk).tm, n, fr, tk, fr.length, tk.length, [none]⟩
def retM (P : Program) (fn : Func) (Q : PV → List PRow → List Nat → Prop) : AX → PS → Prop := fun x s => isRet x ∧ s.ms = [none] ∧ ∃ (p : PV) (ks ts : List Nat) (p1 p' : PV) (fr' : List PRow),
  pResults P s fn.results.toList = some p ∧ (selB s.r0 s.fr.length ks, selB s.t0 s.tk.length ts, mapO (oneR s ks ts) ks, PV.to (idx ks) (idx ts) 4 p) = (true, true, some fr', some p1) ∧ Less 0 0 p1 p' ∧ Q p' fr' (pickN s.tk ts)

theorem PF.enterM {f : FuncId} {fn : Func} {c : Code} {args : List PV} {fr : List PRow} {tk : List Nat} {Q : PV → List PRow → List Nat → Prop} (hf : P.funcs[f]? = some fn) (hc : fn.body = some c) (hn : Nat.ble args.length fn.ntmps = true) (hm : Nat.ble args.length 1000000 = true)
    (hx : (fn.name == "runtime.NumGoroutine") = false) (hk : nilKnown O f args = none) (h : PC P O none c (PS.startM fn.ntmps args fr tk) (retM P fn Q)) : PF P O f args fr tk Q := by
  intro e H vs hI hX ha
  rw [Nat.ble_eq] at hn hm
  refine WF1.callM (bodyOf_mk hf hc (by rw [← ha.1]; exact hn) (by rw [← ha.1]; exact hm) hx) ?_ ?_
  · exact known_of hk ha.1
  · refine (h (ctx e tk H) e (startAct fn.ntmps vs) H ⟨RelH.start hI hX, rfl, .any rfl, hI.rlen, hI.tlen, fun t p ht => ?_⟩ (fun l hl => by cases hl)).mono fun x a' H' ⟨e', s', h1, h2, hms, p, ks, ts, p1, p', fr', h3, h5, h6, h4⟩ => ?_
    · simp only [PS.startM, PS.start] at ht
      rw [start_get args 0 _ (by omega) t] at ht
      split at ht
      · obtain ⟨v, hv, hv'⟩ := ha.at ht
        refine ⟨v, ?_, hv'⟩
        unfold startAct
        simp only
        rw [start_get vs 0 _ (by rw [← ha.1]; omega) t, if_pos (by rw [← ha.1]; assumption)]
        exact hv
      · rw [T.get_full] at ht; cases ht
    · obtain ⟨H2, l1, l2, l3⟩ := leave_marks (P := P) a'.tm a'.n (l := a'.marks) h1.h (hms ▸ h1.marks)
      have hR2 : RelA (ctx e tk H) e' ⟨s'.tm, s'.n, s'.fr, s'.tk, s'.r0, s'.t0, []⟩ ⟨a'.tm, a'.n, []⟩ H2 := ⟨l2, h1.n, .nil rfl, h1.r0, h1.t0, fun t q hq => let ⟨v, m1, m2⟩ := h1.tm t q hq; ⟨v, m1, m2.grow l3⟩⟩
      have h3' : pResults P ⟨s'.tm, s'.n, s'.fr, s'.tk, s'.r0, s'.t0, []⟩ fn.results.toList = some p := by
        have key : ∀ rs, pResultL P ⟨s'.tm, s'.n, s'.fr, s'.tk, s'.r0, s'.t0, []⟩ rs = pResultL P s' rs := by
          intro rs
          induction rs with
          | nil => rfl
          | cons r rs ih =>
            have e1 : pResult P ⟨s'.tm, s'.n, s'.fr, s'.tk, s'.r0, s'.t0, []⟩ r = pResult P s' r := by cases r <;> rfl
            simp only [pResultL, e1, ih]
        unfold pResults at h3 ⊢
        rw [key]; exact h3
      obtain ⟨v, k1, k2⟩ := hR2.results h3'
      simp only [Prod.mk.injEq] at h5
      obtain ⟨g1, g2, g3, g4⟩ := h5
      obtain ⟨m1, m2⟩ := oneR_at g3
      have hX' : ∀ id fam en, Stay e' s'.tk H2 id fam en → e'.X id fam en := fun id fam en hs => hs.x
      have hsel := sel_mk hR2.h.inv (selB_ok g1) (selB_ok g2) hX'
      have h7 := hR2.sel (selB_ok g1) (selB_ok g2) m1 m2 (tm1 := .nil) (fun t q h => by cases h)
      refine ⟨?_, H2, l1, v, ?_, e'.sel ks ts e'.X, fr', pickN s'.tk ts, p', h7.h.back, ?_, h4⟩
      · cases x <;> first | exact .inl rfl | exact .inr rfl | exact h2.elim
      · have : ∀ rs, aResults P H2 a' rs = aResults P H2 ⟨a'.tm, a'.n, []⟩ rs := fun rs => rfl
        rw [this]; exact k1
      · exact (k2.sel hsel 4 g4).wk (fun k a b => by omega) h6

theorem retMK {s : PS} {fn : Func} {Qf : PV → List PRow → List Nat → Prop} (ks ts : List Nat) {p1 p' : PV} {fr' : List PRow} (h : (endP P s fn.results.toList ks ts, selB s.r0 s.fr.length ks, selB s.t0 s.tk.length ts, mapO (oneR s ks ts) ks, s.ms) = (some p1, true, true, some fr', [none])) (hl : Less 0 0 p1 p') (hq : Qf p' fr' (pickN s.tk ts)) : retM P fn Qf .ret s := by
  simp only [Prod.mk.injEq] at h
  obtain ⟨h1, h2, h3, h4, hms⟩ := h
  unfold endP at h1
  cases hp : pResults P s fn.results.toList with
  | none => rw [hp] at h1; cases h1
  | some p => rw [hp] at h1; exact ⟨trivial, hms, p, ks, ts, p1, p', fr', hp, by rw [h2, h3, h4]; exact congrArg (fun z => (true, true, some fr', z)) h1, hl, hq⟩

theorem bindK {α β : Type} {x : Option α} {f : α → Option β} {r : β} {p : Prop} (h : Option.bind x f = some r) (k : ∀ a, x = some a → f a = some r → p) : p := let ⟨a, h1, h2⟩ := bind_some h; k a h1 h2
theorem bindIK {α β : Type} {L : List α} {i : Int} {f : α → Option β} {r : β} {p : Prop} (h : bindI L i f = some r) (k : ∀ y, 0 ≤ i → L[i.toNat]? = some y → f y = some r → p) : p := let ⟨y, h0, h1, h2⟩ := bindI_some h; k y h0 h1 h2
theorem bindAK {α β : Type} {n : Nat} {L M : List α} {f : List α → Option β} {r : β} {p : Prop} (h : bindA n L M f = some r) (k : (5 * (L.length + M.length) + 768) * n ≤ 1125899906842624 → f (L ++ M) = some r → p) : p := let ⟨h1, h2⟩ := bindA_some h; k h1 h2
theorem bindSK {α β : Type} {L : List α} {lo hi : Int} {f : List α → Option β} {r : β} {p : Prop} (h : bindS L lo hi f = some r) (k : 0 ≤ lo → lo ≤ hi → hi ≤ L.length → f ((L.take hi.toNat).drop lo.toNat) = some r → p) : p := let ⟨h0, h1, h2, h3⟩ := bindS_some h; k h0 h1 h2 h3
theorem bindDK {β : Type} {n : Int} {f : Option β} {r : β} {p : Prop} (h : bindD n f = some r) (k : n ≠ 0 → f = some r → p) : p := let ⟨h0, h1⟩ := bindD_some h; k h0 h1
theorem drop_at {α : Type} {l : List α} {i : Nat} {x : α} (h : l[i]? = some x) : l.drop i = x :: l.drop (i + 1) := by
  have hi := lt_of_get h
  rw [List.drop_eq_getElem_cons hi]
  rw [List.getElem?_eq_getElem hi] at h
  cases h; rfl
theorem map_inv {α β : Type} {f : α → β} {l : List α} {i : Nat} {y : β} (h : (l.map f)[i]? = some y) : ∃ x, l[i]? = some x ∧ y = f x := by
  rw [List.getElem?_map] at h
  cases hx : l[i]? with
  | none => rw [hx] at h; cases h
  | some x => rw [hx] at h; cases h; exact ⟨x, rfl, rfl⟩
end
end Go.Eng
