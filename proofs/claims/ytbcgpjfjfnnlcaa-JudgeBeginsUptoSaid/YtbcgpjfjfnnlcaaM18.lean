/-
  A region whose order is open: its beginning, its end; several operations at once.
-/
import Derived.Test.YtbcgpjfjfnnlcaaM16
set_option linter.unusedSimpArgs false
set_option linter.unusedVariables false
namespace Go.Eng
noncomputable section
variable {P : Program} {O : Orc}

/-! ### The beginning -/
theorem reserve_some : ∀ (os : List Oper) (i next : Nat), ∃ ps n, reserve os i next = (ps, n) ∧ ∀ (j : Nat) (o : Oper), os[j]? = some o → floatOp o = true → ∃ p ∈ ps, p.op = i + j
  | [], i, next => ⟨[], next, rfl, fun j o h => by simp at h⟩
  | o :: os, i, next => by
    cases hf : floatOp o with
    | false =>
      obtain ⟨ps, n, h1, h2⟩ := reserve_some os (i + 1) next
      refine ⟨ps, n, by simp only [reserve, hf, h1], fun j o' hj ho' => ?_⟩
      cases j with
      | zero => simp at hj; subst hj; rw [hf] at ho'; cases ho'
      | succ j =>
        obtain ⟨p, hp, hp'⟩ := h2 j o' (by simpa using hj) ho'
        exact ⟨p, hp, by omega⟩
    | true =>
      obtain ⟨ps, n, h1, h2⟩ := reserve_some os (i + 1) (next + 1)
      refine ⟨⟨i, next, floatVal o.op next, noRow⟩ :: ps, n, by simp only [reserve, hf, h1], fun j o' hj ho' => ?_⟩
      cases j with
      | zero => exact ⟨_, List.mem_cons_self, rfl⟩
      | succ j =>
        obtain ⟨p, hp, hp'⟩ := h2 j o' (by simpa using hj) ho'
        exact ⟨p, List.mem_cons_of_mem _ hp, by omega⟩

theorem RelA.raise {C : Ctx} {e : Env} {s : PS} {a : AAct} {H : AH} (hR : RelA C e s a H) {n : Nat} (hn : H.next ≤ n) : RelA C e s a { H with next := n } := by
  have hI := hR.h.inv
  have hget : ∀ j, ({ H with next := n } : AH).get j = H.get j := fun j => rfl
  have g : Grow e s.tk H e s.tk { H with next := n } := ⟨hn, fun _ _ h => h, fun id fam en _ hs => ⟨Nat.lt_of_lt_of_le hs.lt hn, Nat.lt_of_lt_of_le hs.flt hn, hs.x, hs.row, hs.tok⟩, fun id r n hr _ => ⟨r, hr, Meta.refl r, fun _ _ => rfl⟩, fun k n hk => ⟨n, hk, Nat.le_refl _, fun _ => rfl⟩⟩
  refine ⟨⟨⟨⟨fun j o ho => Nat.lt_of_lt_of_le (hI.wf.lt j o ho) hn, fun j r hr => Nat.lt_of_lt_of_le (hI.wf.fam j r hr) hn, hI.wf.esz⟩, hI.rlen, hI.rnd, fun k id R hk hRk => ?_, hI.tlen, hI.tsep, fun t τ ht => Nat.lt_of_lt_of_le (hI.tlt t τ ht) hn, hI.tfr⟩, hR.h.ext, ⟨Nat.le_trans hR.h.frame.next hn, hR.h.frame.row, hR.h.frame.oth, hR.h.frame.gone, hR.h.frame.fam⟩, hR.h.cw, hR.h.x, hR.h.x0⟩, hR.n, hR.marks.step (fun _ h => h), hR.r0, hR.t0, fun t q ht => ?_⟩
  · exact (hI.row k id R hk hRk).stay rfl rfl fun us h8 => h8.grow g
  · obtain ⟨v, h1, h2⟩ := hR.tm t q ht
    exact ⟨v, h1, h2.grow g⟩

def drawB (P : Program) (os : List Oper) (order : List Nat) : Bool := P.follows .mixedOrders && (tmpsRight os (clos os) && drawOrder P os (clos os) == order)

theorem PC.draw {rnd : Option Nat} {i : Nat} {ops : Array Oper} {z : Code} {s : PS} {Q : AX → PS → Prop} (order : List Nat) (hp : drawB P ops.toList order = true)
    (h : PD P O ops.toList (clos ops.toList) s.fr.length order ⟨0, 0, 0, []⟩ s (fun s1 => PC P O rnd z s1 Q)) : PC P O rnd (.seq (.region i ops true) z) s Q := fun C e a H hR hX => by
  unfold drawB at hp
  simp only [Bool.and_eq_true, beq_iff_eq] at hp
  obtain ⟨p1, p2, p4⟩ := hp
  obtain ⟨ps, n, r1, r2⟩ := reserve_some ops.toList 0 H.next
  have pd := Pends.of (P := P) r1
  have hI := hR.h.inv
  have hins0 : (PM.mk { H with next := n } 0).ins 0 ps = { H with next := n } := ins_none ps _ (fun p _ => by simp)
  have hR1 := hR.raise pd.le
  obtain ⟨N, hN⟩ := h H.next n ps C e a ⟨{ H with next := n }, 0⟩ [] (by
    refine ⟨by rw [show (DC.mk 0 0 0 []).done = 0 from rfl, hins0]; exact hR1, rfl, pd, (fun j o hj ho => by obtain ⟨p, a1, a2⟩ := r2 j o hj ho; exact ⟨p, a1, by omega⟩), hR.h.frame.next, Nat.le_refl _, fun p hp _ => ?_, fun p hp _ i r hr => ?_, fun p hp _ t τ ht e1 => ?_, fun p hp hg => by simp at hg, ⟨by rw [hI.rlen]; exact Nat.le_refl _, fun k id hk hid p hp e1 => ?_⟩, fun p hp hd => by simp at hd, rfl, fun i x y hx => by simp at hx⟩
    · rw [show (DC.mk 0 0 0 []).done = 0 from rfl, hins0]
      have h1 := (pd.mem p hp).1
      cases hg : H.get p.id with
      | none => exact hg
      | some o => have := hI.wf.lt _ _ hg; omega
    · rw [show (DC.mk 0 0 0 []).done = 0 from rfl, hins0] at hr
      have h1 := (pd.mem p hp).1
      have := hI.wf.fam i r hr
      omega
    · have h1 := (pd.mem p hp).1
      have := hI.tlt t τ ht; omega
    · have h1 := (pd.mem p hp).1
      have := hI.rlt (List.mem_of_getElem? hid); omega)
  obtain ⟨D, d1, d2, e', s', d3, d4⟩ := hN N (Nat.le_refl _)
  refine WC.seq ⟨N + 1, .normal, D.a, D.m.ins D.done D.ps, ?_, d4 C e' D.a _ d3 hX⟩
  have hd : aDraw P (oRun P O N) ops.toList a H = .ok (D.a, D.m.ins D.done D.ps) := by
    unfold aDraw
    simp only [p2, if_true, r1, p4]
    show (order.foldlM (dStep P (oRun P O N) ops.toList (clos ops.toList)) { done := 0, last := 0, chs := [], a := a, m := ⟨{ H with next := n }, 0⟩, ps := ps } >>= fun s => if s.done = 2 ^ ops.toList.length - 1 then .ok (s.a, s.m.ins s.done s.ps) else .error 121) = _
    rw [d1]
    show (if D.done = 2 ^ ops.toList.length - 1 then Except.ok (D.a, D.m.ins D.done D.ps) else .error 121) = _
    rw [if_pos d2]
  simp only [oRun, aStep, p1, Bool.not_true, Bool.false_eq_true, if_false, hd]
  rfl

end
end Go.Eng
/-
  A region whose order is open: rules that a printed walk leans on.
-/
namespace Go.Eng
noncomputable section
variable {P : Program} {O : Orc}

section rules
variable {os : List Oper} {cl : List Nat} {base j : Nat} {js : List Nat} {σ : DC} {s : PS} {Q : PS → Prop} {o : Oper}

/-- one that reads no memory -/
theorem PD.pureS {p : PV} (ho : os[j]? = some o) (hq : (floatOp o, σ.done.testBit j, bitsIn (cl.getD j 0) σ.done, pureOp P o.op) = (false, false, true, true)) (hw : pWanted os s o = some true) (hS : OpSame P O s o p) (hcan : s.can o.dst = true)
    (h : PD P O os cl base js { σ with done := σ.done ||| 2 ^ j } (s.upd o.dst p) Q) : PD P O os cl base (j :: js) σ s Q := fun lo n ps C e a m chE hR => by
  simp only [Prod.mk.injEq] at hq
  obtain ⟨hf, hd, hc, hpu⟩ := hq
  obtain ⟨n0, v, k1, k2⟩ := hS.2 C e a _ hR.rel
  obtain ⟨N, hN⟩ := h lo n ps C e (a.upd o.dst v) m chE (hR.quiet ho hf (hR.rel.upd hcan hR.rel.refl k2))
  refine ⟨max N n0, fun k hk => ?_⟩
  obtain ⟨D, d1, d2⟩ := hN k (Nat.le_trans (Nat.le_max_left _ _) hk)
  refine ⟨D, ?_, d2⟩
  rw [List.foldlM_cons]
  have hdo : aDo P (oRun P O k) os a (m.ins (cl.getD j 0) ps) o = .ok (v, m.ins (cl.getD j 0) ps) := by
    have h1 : aDo P (oRun P O k) os a (m.ins σ.done ps) o = .ok (v, m.ins σ.done ps) := by rw [do_want hR.rel hw]; exact aOp_mono (oRun_le (Nat.le_trans (Nat.le_max_right _ _) hk)) k1
    exact (aDo_pure hpu h1).2 _
  have : dStep P (oRun P O k) os cl ⟨σ.done, σ.last, chE, a, m, ps⟩ j = .ok ⟨σ.done ||| 2 ^ j, σ.last, chE, a.upd o.dst v, m, ps⟩ := by
    unfold dStep
    simp only [ho, hd, hc, hf, Bool.false_eq_true, if_false, Bool.not_true, hdo]
    simp only [bind, Except.bind, hR.rel.put hcan, hpu, if_true]
  rw [this]
  exact d1

/-- one that reads memory, and waits for the chief operation ahead of it -/
theorem PD.readS {p : PV} (ho : os[j]? = some o) (hq : (floatOp o, σ.done.testBit j, bitsIn (cl.getD j 0) σ.done, pureOp P o.op, readOp o.op, newest (cl.getD j 0) σ.chs, fOK os (cl.getD j 0) σ.got σ.done) = (false, false, true, false, true, true, true)) (hw : pWanted os s o = some true) (hS : OpSame P O s o p) (hcan : s.can o.dst = true)
    (h : PD P O os cl base js { σ with done := σ.done ||| 2 ^ j } (s.upd o.dst p) Q) : PD P O os cl base (j :: js) σ s Q := fun lo n ps C e a m chE hR => by
  simp only [Prod.mk.injEq] at hq
  obtain ⟨hf, hd, hc, hpu, hre, hnw, hfo⟩ := hq
  obtain ⟨n0, v, k1, k2⟩ := hS.2 C e a _ hR.rel
  have hins := ins_cl (m := m) hR.pd hc (by rw [hR.got]; exact hfo)
  obtain ⟨N, hN⟩ := h lo n ps C e (a.upd o.dst v) m chE (hR.quiet ho hf (hR.rel.upd hcan hR.rel.refl k2))
  refine ⟨max N n0, fun k hk => ?_⟩
  obtain ⟨D, d1, d2⟩ := hN k (Nat.le_trans (Nat.le_max_left _ _) hk)
  refine ⟨D, ?_, d2⟩
  rw [List.foldlM_cons]
  have hdo : aDo P (oRun P O k) os a (m.ins (cl.getD j 0) ps) o = .ok (v, m.ins (cl.getD j 0) ps) := by
    rw [hins, do_want hR.rel hw]; exact aOp_mono (oRun_le (Nat.le_trans (Nat.le_max_right _ _) hk)) k1
  have hsb : sameBack P (oRun P O k) os ps a o v (cl.getD j 0) chE = true := by
    cases hchE : chE with
    | nil => rfl
    | cons y l =>
      obtain ⟨x0, hx0⟩ := get_of_lt (l := σ.chs) (i := 0) (by rw [hR.len, hchE]; simp)
      obtain ⟨e1, _⟩ := hR.back 0 x0 y hx0 (by rw [hchE]; rfl)
      cases hs : σ.chs with
      | nil => rw [hs] at hx0; cases hx0
      | cons x1 l1 =>
        rw [hs] at hx0 hnw
        cases hx0
        have hb : (cl.getD j 0).testBit y.1 = true := by rw [← e1]; exact hnw
        obtain ⟨c, mm⟩ := y
        simp only [sameBack]
        rw [if_pos hb]
  have : dStep P (oRun P O k) os cl ⟨σ.done, σ.last, chE, a, m, ps⟩ j = .ok ⟨σ.done ||| 2 ^ j, σ.last, chE, a.upd o.dst v, m, ps⟩ := by
    unfold dStep
    simp only [ho, hd, hc, hf, Bool.false_eq_true, if_false, Bool.not_true, hdo]
    simp only [bind, Except.bind, hR.rel.put hcan, hpu, hre, hsb, if_true, Bool.false_eq_true, if_false]
  rw [this]
  exact d1

/-- a chief operation -/
theorem PD.chiefS {p : PV} {fr' : List PRow} {tk' : List Nat} {T : List Nat} {loud : Bool} (ho : os[j]? = some o) (hq : (floatOp o, σ.done.testBit j, bitsIn (cl.getD j 0) σ.done, pureOp P o.op, readOp o.op, newest (cl.getD j 0) σ.chs, fOK os (cl.getD j 0) σ.got σ.done, bitsIn (σ.done ^^^ σ.last) (cl.getD j 0)) = (false, false, true, false, false, true, true, true))
    (hw : pWanted os s o = some true) (hE : Effect P O s o p fr' tk' T loud) (hcan : s.can o.dst = true)
    (h : PD P O os cl base js ⟨σ.done ||| 2 ^ j, σ.done ||| 2 ^ j, σ.got ||| cl.getD j 0, chsAfter j T loud σ.chs⟩ ((s.mem fr' tk').upd o.dst p) Q) : PD P O os cl base (j :: js) σ s Q := by
  simp only [Prod.mk.injEq] at hq
  obtain ⟨hf, hd, hc, hpu, hre, hnw, hfo, hl⟩ := hq
  exact PD.chief ho hf hd hc hpu hre hl hnw hfo hw hE hcan h

/-! ### Effects -/
variable {d : Option Tmp} {ty : TypeId} {pst : String} {af : Array Edge} {gu : Option (Nat × Bool)}

theorem store_effect {t : TypeId} {x y : Operand} {k off n : Nat} {R : PRow} {p : PV} (hx : s.ev x = some (.ptr k off)) (hy : s.ev y = some p) (hn : tSize P t = .ok n) (hl : Nat.beq p.cells.length n = true) (hR0 : s.fr[k]? = some R) (hp : p.cells.all PV.plain = true)
    (hb : okW R (off + p.cells.length) = true) : Effect P O s ⟨d, .store t x y, ty, pst, af, gu⟩ (.tup []) (s.fr.set k ⟨R.esz, pSplice R.cells off p.cells⟩) s.tk [k] false :=
  ⟨rfl, fun C e a H hR => by
    obtain ⟨id, r', h1, h2, h3⟩ := store_core (O := O) (d := d) (ty := ty) (pst := pst) (af := af) (gu := gu) hx hy hn hl hR0 hp hb hR
    refine ⟨0, undef, _, e, h2, h3, rv_undef, fun k' id' hk' hkT => ?_, fun _ id' hid => ?_⟩
    · rw [AH.get_set, if_neg (fun e1 => hkT (by subst e1; rw [hR.h.inv.rnd k' k id' hk' h1]; simp))]
    · rw [AH.get_set, if_neg (fun e1 => by subst e1; exact hid k (by simp) h1)]⟩

theorem push_still {e : Env} {fr : List PRow} {tk : List Nat} {H : AH} (hI : HInv e fr tk H) (r : Row) {k id : Nat} (hk : e.rows[k]? = some id) : (H.push r).get id = H.get id := by
  rw [AH.get_push, if_neg (fun e1 => hI.nnext (by rw [← e1]; exact List.mem_of_getElem? hk))]

theorem box_effect {t : TypeId} {x : Operand} {p : PV} (h : s.ev x = some p) : Effect P O s ⟨d, .box t x, ty, pst, af, gu⟩ (.ptr s.fr.length 0) (s.fr ++ [⟨0, p.cells⟩]) s.tk [] true :=
  ⟨rfl, fun C e a H hR => by
    obtain ⟨v, h1, h2⟩ := hR.ev h
    have st := step_row hR.h.inv h2.cells t 0 (by decide)
    refine ⟨0, .pointer (some ⟨H.next, 0, none⟩), _, _, ?_, st, .ptr ?_, fun k id hk _ => push_still hR.h.inv _ hk, fun h => by cases h⟩
    · simp only [aOp, AAct.ev_eval h1, bind, Except.bind, newRow, AH.new_push]; rfl
    · rw [← hR.h.inv.rlen]; exact get_app_new⟩

theorem buildSlice_effect {t : TypeId} {len sz : Nat} {parts : Array (Nat × Operand)} {l : List (List PV)} (h : pLit P s t len parts.toList = some (sz, l)) : Effect P O s ⟨d, .buildSlice t len parts, ty, pst, af, gu⟩ (.list sz l (some s.tk.length)) s.fr (s.tk ++ [l.length]) [] true :=
  ⟨rfl, fun C e a H hR => by
    unfold pLit at h
    cases ht : P.underlying t with
    | none => rw [ht] at h; cases h
    | some D =>
      rw [ht] at h
      cases D with
      | slice elem =>
        simp only at h
        cases hps : pParts s parts.toList with
        | none => rw [hps] at h; cases h
        | some ps =>
          cases hs : tSize P elem with
          | error n => rw [hps, hs] at h; cases h
          | ok size =>
            cases hz : tZero P elem with
            | error n => rw [hps, hs, hz] at h; cases h
            | ok zs =>
              rw [hps, hs, hz] at h
              obtain ⟨hle, h⟩ := pick_some h
              obtain ⟨hpl, h⟩ := pick_some h
              cases hf : pFill (fun i => some (i * size, size)) ((repeated zs len).map .val) ps with
              | none => rw [hf] at h; cases h
              | some cells =>
                rw [hf] at h
                simp only at h
                cases hlo : lows cells with
                | none => rw [hlo] at h; cases h
                | some cs =>
                  rw [hlo] at h
                  obtain ⟨hcl, h⟩ := pick_some h
                  cases h
                  obtain ⟨vs, h1, h2⟩ := hR.parts hps
                  obtain ⟨r, k1, k2⟩ := fill_rv ps vs _ (repeated zs len).toArray _ h2 (rv_vals (all_repeated hpl len)) hf
                  obtain ⟨k3, k4⟩ := lows_rv k2 hlo
                  have hli := lies_chunk (n := len) k3 k4 (Nat.eq_of_beq_eq_true hcl)
                  obtain ⟨st, rv⟩ := step_list hR.h.inv hR.h.xc hli elem
                  rw [Nat.ble_eq] at hle
                  have hle' : ¬ len * sz > 16777216 := by omega
                  refine ⟨0, _, _, _, ?_, st, rv, fun k id hk _ => push_still hR.h.inv _ hk, fun h => by cases h⟩
                  simp only [aOp, ht]
                  rw [h1]
                  simp only [bind, Except.bind, hs, if_neg hle', hz, k1, newRow, AH.new_push, chunk_len]
                  rfl
      | _ => cases h⟩

theorem append_effect {α : Type} {L M L2 : List α} {f : α → List PV} {t u el sz bytes k n : Nat} {x y : Operand} {zs : List Value} {l m : List (List PV)} {tko : Option Nat} (ht : P.underlying t = some (.slice el)) (hu : tZeros P (some u) = .ok false) (hs : tSize P el = .ok sz) (hb : tBytes P el = .ok bytes) (hz : tZero P el = .ok zs) (hs0 : Nat.beq sz 0 = false) (hb0 : Nat.beq bytes 0 = false)
    (hx : s.ev x = some (.list sz l (some k))) (hl : l = L.map f) (hy : s.ev y = some (.list sz m tko)) (hm : m = M.map f) (hn : s.tk[k]? = some n) (hln : L.length = n) (hbig : (5 * (L.length + M.length) + 768) * bytes ≤ 1125899906842624) (h2 : L ++ M = L2) :
    Effect P O s ⟨d, .call ⟨.builtin .append, #[x, y], #[t, u]⟩, ty, pst, af, gu⟩ (.list sz (L2.map f) (some k)) s.fr (s.tk.set k L2.length) [] true := by
  subst hl; subst hm; subst h2
  refine ⟨rfl, fun C e a H hR => ?_⟩
  obtain ⟨v, k1, k2⟩ := hR.ev hx
  obtain ⟨w, k3, k4⟩ := hR.ev hy
  obtain ⟨new, m1, m2⟩ := appended_list k4 hs
  obtain ⟨e', H', v', a1, a2, a3, a4⟩ := append_ok hR.h.inv hR.h.xc ht hu hs hb hz hs0 hb0 k2 (by rw [List.length_map, hln]; exact hn) m1 m2 (by simpa using hbig)
  have e1 : (L.map f).length + (M.map f).length = (L ++ M).length := by simp
  have e2 : L.map f ++ M.map f = (L ++ M).map f := by rw [List.map_append]
  rw [e1] at a2 a3
  rw [e2] at a3
  exact ⟨0, v', H', e', by simp only [aOp, allR, AAct.ev_eval k1, AAct.ev_eval k3, bind, Except.bind, a1], a2, a3, fun k id hk _ => a4 k id hk, fun h => by cases h⟩

/-- what a call comes to, behind it -/
theorem PD.call {g : FuncId} {xs : Array Operand} {tys : Array TypeId} {args args1 : List PV} {ks ts : List Nat} {fr1 : List PRow} {Qf : PV → List PRow → List Nat → Prop} (ho : os[j]? = some o) (hop : o.op = .call ⟨.value (.func g), xs, tys⟩) (hq : (floatOp o, σ.done.testBit j, bitsIn (cl.getD j 0) σ.done, pureOp P o.op, readOp o.op, newest (cl.getD j 0) σ.chs, fOK os (cl.getD j 0) σ.got σ.done, bitsIn (σ.done ^^^ σ.last) (cl.getD j 0)) = (false, false, true, false, false, true, true, true))
    (hw : pWanted os s o = some true) (hx : evs s xs.toList = some args) (hc : s.can o.dst = true) (hk : selB 0 s.fr.length ks = true) (ht : selB 0 s.tk.length ts = true) (ha : mapO (PV.to (idx ks) (idx ts) 4) args = some args1) (hfr : SelFr0 s.fr ks ts ks fr1) (hf : PF P O g args1 fr1 (pickN s.tk ts) Qf)
    (h : CallK s ks ts Qf (fun p fr tk => PD P O os cl base js ⟨σ.done ||| 2 ^ j, σ.done ||| 2 ^ j, σ.got ||| cl.getD j 0, chsAfter j ks true σ.chs⟩ ((s.mem fr tk).upd o.dst p) Q)) : PD P O os cl base (j :: js) σ s Q := fun lo n ps C e a m chE hR => by
  -- the call is carried out once, to see what it comes to
  obtain ⟨vs, h1, h2⟩ := hR.rel.evs hx
  obtain ⟨n1, v, H', k1, e', p, fr', tk', k2, k3, k4, k5⟩ := call_core hR.rel h2 hk ht ha hfr hf h
  have hop' : aOp P (oRun P O n1) a (m.ins σ.done ps) o = .ok (v, H') := by
    obtain ⟨d, op, ty, pst, af, gu⟩ := o
    simp only at hop
    subst hop
    have e0 : (#[] : Array Value).toList ++ vs ++ (#[] : Array Value).toList = vs := by simp
    simp only [aOp, h1, AAct.eval, bind, Except.bind, e0, k1]
  simp only [Prod.mk.injEq] at hq
  obtain ⟨hf', hd, hcl, hpu, hre, hnw, hfo, hl⟩ := hq
  refine PD.chief_one (T := ks) (loud := true) ho hf' hd hcl hpu hre hl hnw hfo hw (by rw [hop]; rfl) hR ⟨n1, v, H', e', hop', k2, k3, fun k id hkid hkT => k5 k id hkid ?_, fun h => by cases h⟩ hc k4
  cases hi : idx ks k with
  | none => rfl
  | some i => exact absurd (List.mem_of_getElem? (idx_get hi)) hkT

/-! ### Several operations at once -/
def quietB (P : Program) (os : List Oper) (cl : List Nat) (j : Nat) (o : Oper) (σ : DC) : Bool := !σ.done.testBit j && bitsIn (cl.getD j 0) σ.done
def chiefB (P : Program) (os : List Oper) (cl : List Nat) (j : Nat) (o : Oper) (σ : DC) : Bool := !pureOp P o.op && (!readOp o.op && (newest (cl.getD j 0) σ.chs && (fOK os (cl.getD j 0) σ.got σ.done && bitsIn (σ.done ^^^ σ.last) (cl.getD j 0))))
def DC.quiet (σ : DC) (j : Nat) : DC := ⟨σ.done ||| 2 ^ j, σ.last, σ.got, σ.chs⟩
def DC.chief (σ : DC) (j c : Nat) (T : List Nat) (loud : Bool) : DC := ⟨σ.done ||| 2 ^ j, σ.done ||| 2 ^ j, σ.got ||| c, chsAfter j T loud σ.chs⟩

def pPure2 (P : Program) (s : PS) : Op → Option PV
  | .build t parts => pBuild P s t parts.toList
  | op => pPure P s op

theorem pPure2_ok {p : PV} (h : pPure2 P s o.op = some p) : OpSame P O s o p := by
  have gen : pPure P s o.op = some p → OpSame P O s o p := fun h =>
    let ⟨h1, h2⟩ := pPure_core (O := O) h
    ⟨h1, fun C e a H hR => let ⟨v, k1, k2⟩ := h2 C e a H hR; ⟨0, v, k1, k2⟩⟩
  obtain ⟨d, op, ty, ps, af, gu⟩ := o
  cases op with
  | build t parts => exact build_ok h
  | _ => exact gen h

def stepD (P : Program) (os : List Oper) (cl : List Nat) (base j : Nat) (o : Oper) (σ : DC) (s : PS) : Option (DC × PS) :=
  match pWanted os s o with
  | some true => pick (quietB P os cl j o σ && s.can o.dst) (match floatOp o with
    | true => (match o.op with
      | .alloc t => (match tZero P t with
        | .ok zs => pick (zs.all plainCell && !σ.got.testBit j) (some (σ.quiet j, (s.mem (s.fr ++ [⟨0, zs.map .val⟩]) s.tk).upd o.dst (.ptr s.fr.length 0))) none
        | .error _ => none)
      | .buildSlice t len parts => (match pLit P s t len parts.toList with
        | some (sz, l) => pick (!σ.got.testBit j) (some (σ.quiet j, (s.mem s.fr s.tk).upd o.dst (.list sz l none))) none
        | none => none)
      | _ => none)
    | false => (match pureOp P o.op with
      | true => (match pPure2 P s o.op with
        | some p => some (σ.quiet j, s.upd o.dst p)
        | none => none)
      | false => (match o.op with
        | .load t x => (match s.ev x with
          | some q => (match pLoad P s.fr t q with
            | some p => pick (p.okd2 && (rdOK base (cl.getD j 0) q σ.chs (noLit os σ.done) && fOK os (cl.getD j 0) σ.got σ.done)) (some (σ.quiet j, s.upd o.dst p)) none
            | none => none)
          | none => none)
        | .store t x y => (match s.ev x, s.ev y, tSize P t with
          | some (.ptr k off), some p, .ok n => (match s.fr[k]? with
            | some R => pick (chiefB P os cl j o σ && (Nat.beq p.cells.length n && (p.cells.all PV.plain && okW R (off + p.cells.length)))) (some (σ.chief j (cl.getD j 0) [k] false, (s.mem (s.fr.set k ⟨R.esz, pSplice R.cells off p.cells⟩) s.tk).upd o.dst (.tup []))) none
            | none => none)
          | _, _, _ => none)
        | .box t x => (match s.ev x with
          | some p => pick (chiefB P os cl j o σ) (some (σ.chief j (cl.getD j 0) [] true, (s.mem (s.fr ++ [⟨0, p.cells⟩]) s.tk).upd o.dst (.ptr s.fr.length 0))) none
          | none => none)
        | .buildSlice t len parts => (match pLit P s t len parts.toList with
          | some (sz, l) => pick (chiefB P os cl j o σ) (some (σ.chief j (cl.getD j 0) [] true, (s.mem s.fr (s.tk ++ [l.length])).upd o.dst (.list sz l (some s.tk.length)))) none
          | none => none)
        | _ => none))) none
  | some false => pick (quietB P os cl j o σ && (s.can o.dst && !floatOp o)) (match pureOp P o.op || readOp o.op with
    | true => some (σ.quiet j, s.upd o.dst (.tup []))
    | false => pick (chiefB P os cl j o σ) (some (σ.chief j (cl.getD j 0) [] false, s.upd o.dst (.tup []))) none) none
  | _ => none

theorem and_t {a b : Bool} (h : (a && b) = true) : a = true ∧ b = true := by simpa using h
theorem not_t {a : Bool} (h : (!a) = true) : a = false := by simpa using h

theorem stepD_ok {σ' : DC} {s' : PS} (ho : os[j]? = some o) (h : stepD P os cl base j o σ s = some (σ', s')) (hq : PD P O os cl base js σ' s' Q) : PD P O os cl base (j :: js) σ s Q := by
  unfold stepD at h
  cases hw : pWanted os s o with
  | none => rw [hw] at h; cases h
  | some b =>
    cases b with
    | false =>
      rw [hw] at h
      obtain ⟨h1, h⟩ := pick_some h
      obtain ⟨hqb, h1⟩ := and_t h1
      obtain ⟨hcan, hfl⟩ := and_t h1
      obtain ⟨hd, hc⟩ := and_t hqb
      have hd := not_t hd
      have hf := not_t hfl
      cases hpr : pureOp P o.op || readOp o.op with
      | true => rw [hpr] at h; cases h; exact PD.skipQ ho hf hd hc hpr hw hcan hq
      | false =>
        rw [hpr] at h
        obtain ⟨hb, h⟩ := pick_some h
        obtain ⟨b1, b2⟩ := and_t hb
        obtain ⟨b3, b4⟩ := and_t b2
        obtain ⟨b5, b6⟩ := and_t b4
        obtain ⟨b7, b8⟩ := and_t b6
        cases h
        exact PD.skipC ho hf hd hc (not_t b1) (not_t b3) b8 b5 b7 hw hcan hq
    | true =>
      rw [hw] at h
      obtain ⟨h1, h⟩ := pick_some h
      obtain ⟨hqb, hcan⟩ := and_t h1
      obtain ⟨hd, hc⟩ := and_t hqb
      have hd := not_t hd
      cases hf : floatOp o with
      | true =>
        rw [hf] at h
        have hg : o.guard = none := by
          unfold floatOp at hf
          split at hf
          · assumption
          · assumption
          · cases hf
        have h' : (match o.op with
          | .alloc t => (match tZero P t with
            | .ok zs => pick (zs.all plainCell && !σ.got.testBit j) (some (σ.quiet j, (s.mem (s.fr ++ [⟨0, zs.map .val⟩]) s.tk).upd o.dst (.ptr s.fr.length 0))) none
            | .error _ => none)
          | .buildSlice t len parts => (match pLit P s t len parts.toList with
            | some (sz, l) => pick (!σ.got.testBit j) (some (σ.quiet j, (s.mem s.fr s.tk).upd o.dst (.list sz l none))) none
            | none => none)
          | _ => none) = some (σ', s') := h
        cases hop : o.op with
        | alloc t =>
          rw [hop] at h'
          simp only at h'
          cases hz : tZero P t with
          | error n => rw [hz] at h'; cases h'
          | ok zs =>
            rw [hz] at h'
            obtain ⟨h2, h3⟩ := pick_some h'
            obtain ⟨h4, h5⟩ := and_t h2
            cases h3
            exact PD.float ho hop hg hd hc hz h4 (not_t h5) hcan hq
        | buildSlice t len parts =>
          rw [hop] at h'
          simp only at h'
          cases hz : pLit P s t len parts.toList with
          | none => rw [hz] at h'; cases h'
          | some r =>
            obtain ⟨sz, l⟩ := r
            rw [hz] at h'
            obtain ⟨h2, h3⟩ := pick_some h'
            cases h3
            exact PD.floatL ho hop hg hd hc hz (not_t h2) hcan hq
        | _ => rw [hop] at h'; cases h'
      | false =>
        rw [hf] at h
        cases hpu : pureOp P o.op with
        | true =>
          rw [hpu] at h
          simp only at h
          cases hp : pPure2 P s o.op with
          | none => rw [hp] at h; cases h
          | some p => rw [hp] at h; cases h; exact PD.pureS ho (by rw [hf, hd, hc, hpu]) hw (pPure2_ok hp) hcan hq
        | false =>
          rw [hpu] at h
          have chief : ∀ {p : PV} {fr' : List PRow} {tk' : List Nat} {T : List Nat} {loud : Bool}, chiefB P os cl j o σ = true → Effect P O s o p fr' tk' T loud → PD P O os cl base js (σ.chief j (cl.getD j 0) T loud) ((s.mem fr' tk').upd o.dst p) Q → PD P O os cl base (j :: js) σ s Q := fun hb hE hq => by
            obtain ⟨_, b2⟩ := and_t hb
            obtain ⟨b3, b4⟩ := and_t b2
            obtain ⟨b5, b6⟩ := and_t b4
            obtain ⟨b7, b8⟩ := and_t b6
            exact PD.chief ho hf hd hc hpu (not_t b3) b8 b5 b7 hw hE hcan hq
          obtain ⟨d, op, ty, pst, af, gu⟩ := o
          simp only at h
          cases op with
          | load t x =>
            simp only at h
            cases hx : s.ev x with
            | none => rw [hx] at h; cases h
            | some q =>
              rw [hx] at h
              simp only at h
              cases hl : pLoad P s.fr t q with
              | none => rw [hl] at h; cases h
              | some p =>
                rw [hl] at h
                obtain ⟨h2, h3⟩ := pick_some h
                obtain ⟨h4, h5⟩ := and_t h2
                obtain ⟨h6, h7⟩ := and_t h5
                cases h3
                exact PD.load ho rfl hd hc h7 hw hx hl h6 h4 hcan hq
          | store t x y =>
            simp only at h
            cases hx : s.ev x with
            | none => rw [hx] at h; cases h
            | some q =>
              cases hy : s.ev y with
              | none => rw [hx, hy] at h; cases q <;> cases h
              | some p =>
                cases hn : tSize P t with
                | error n => rw [hx, hy, hn] at h; cases q <;> cases h
                | ok n =>
                  rw [hx, hy, hn] at h
                  cases q with
                  | ptr k off =>
                    simp only at h
                    cases hk : s.fr[k]? with
                    | none => rw [hk] at h; cases h
                    | some R =>
                      rw [hk] at h
                      obtain ⟨h2, h3⟩ := pick_some h
                      obtain ⟨h4, h5⟩ := and_t h2
                      obtain ⟨h6, h7⟩ := and_t h5
                      obtain ⟨h8, h9⟩ := and_t h7
                      cases h3
                      exact chief h4 (store_effect hx hy hn h6 hk h8 h9) hq
                  | _ => cases h
          | box t x =>
            simp only at h
            cases hx : s.ev x with
            | none => rw [hx] at h; cases h
            | some p =>
              rw [hx] at h
              obtain ⟨h2, h3⟩ := pick_some h
              cases h3
              exact chief h2 (box_effect hx) hq
          | buildSlice t len parts =>
            simp only at h
            cases hb : pLit P s t len parts.toList with
            | none => rw [hb] at h; cases h
            | some r =>
              obtain ⟨sz, l⟩ := r
              rw [hb] at h
              obtain ⟨h2, h3⟩ := pick_some h
              cases h3
              exact chief h2 (buildSlice_effect hb) hq
          | _ => cases h

def pDs (P : Program) (os : List Oper) (cl : List Nat) (base : Nat) : Nat → List Nat → DC → PS → Option (List Nat × DC × PS)
  | 0, js, σ, s => some (js, σ, s)
  | _ + 1, [], σ, s => some ([], σ, s)
  | m + 1, j :: js, σ, s => match os[j]? with
    | some o => match stepD P os cl base j o σ s with
      | some (σ', s') => pDs P os cl base m js σ' s'
      | none => none
    | none => none

theorem PD.run (m : Nat) : ∀ {js js' : List Nat} {σ σ' : DC} {s s' : PS}, pDs P os cl base m js σ s = some (js', σ', s') → PD P O os cl base js' σ' s' Q → PD P O os cl base js σ s Q := by
  induction m with
  | zero => intro js js' σ σ' s s' h hq; cases h; exact hq
  | succ m ih =>
    intro js js' σ σ' s s' h hq
    cases js with
    | nil => cases h; exact hq
    | cons j js =>
      simp only [pDs] at h
      cases ho : os[j]? with
      | none => rw [ho] at h; cases h
      | some o =>
        rw [ho] at h
        simp only at h
        cases hs : stepD P os cl base j o σ s with
        | none => rw [hs] at h; cases h
        | some r =>
          obtain ⟨σ1, s1⟩ := r
          rw [hs] at h
          exact stepD_ok ho hs (ih h hq)

def getT (s : PS) : Nat × PV → Option PV := fun (t, _) => s.tm.get t

theorem getT_all {s : PS} : ∀ {es : List (Nat × PV)}, mapO (getT s) es = some (es.map Prod.snd) → ∀ t p, (t, p) ∈ es → s.tm.get t = some p
  | [], _, t, p, h => by simp at h
  | (t0, p0) :: l, h, t, p, hm => by
    simp only [mapO] at h
    cases h1 : getT s (t0, p0) with
    | none => rw [h1] at h; cases h
    | some q =>
      rw [h1] at h
      cases h2 : mapO (getT s) l with
      | none => rw [h2] at h; cases h
      | some qs =>
        rw [h2] at h
        simp only [List.map_cons, Option.some.injEq, List.cons.injEq] at h
        obtain ⟨rfl, rfl⟩ := h
        rcases List.mem_cons.1 hm with e1 | hm
        · cases e1; exact h1
        · exact getT_all h2 t p hm

theorem PD.same {es : List (Nat × PV)} (h : mapO (getT s) es = some (es.map Prod.snd)) (hq : PD P O os cl base js σ (PS.ofm s.ms s.n es s.fr s.tk s.r0 s.t0) Q) : PD P O os cl base js σ s Q := fun lo n ps C e a m chE hR =>
  hq lo n ps C e a m chE ⟨⟨hR.rel.h, hR.rel.n, hR.rel.marks, hR.rel.r0, hR.rel.t0, fun t p ht => hR.rel.tm t p (getT_all h t p (of_get es t p ht))⟩, hR.got, hR.pd, hR.all, hR.lo, hR.hi, hR.gone, hR.famx, hR.tok, hR.sub, hR.bs, hR.exec, hR.len, hR.back⟩

def runD (P : Program) (os : List Oper) (cl : List Nat) (base m : Nat) (js : List Nat) (σ : DC) (s : PS) (es : List (Nat × PV)) : Option (List Nat × DC × Nat × Nat × Nat × List (Option Tmp) × Option (List PV) × List PRow × List Nat) :=
  match pDs P os cl base m js σ s with
  | some (js1, σ1, s1) => some (js1, σ1, s1.n, s1.r0, s1.t0, s1.ms, mapO (getT s1) es, s1.fr, s1.tk)
  | none => none

theorem PD.runK (m : Nat) {js' : List Nat} {σ' : DC} {es : List (Nat × PV)} {fr' : List PRow} {tk' : List Nat} (h : runD P os cl base m js σ s es = some (js', σ', s.n, s.r0, s.t0, s.ms, some (es.map Prod.snd), fr', tk')) (hq : PD P O os cl base js' σ' (PS.ofm s.ms s.n es fr' tk' s.r0 s.t0) Q) : PD P O os cl base js σ s Q := by
  unfold runD at h
  cases hd : pDs P os cl base m js σ s with
  | none => rw [hd] at h; cases h
  | some r =>
    obtain ⟨js1, σ1, s1⟩ := r
    rw [hd] at h
    simp only [Option.some.injEq, Prod.mk.injEq] at h
    obtain ⟨rfl, rfl, e1, e2, e3, e5, e4, rfl, rfl⟩ := h
    refine PD.run m hd (PD.same e4 ?_)
    rw [e1, e2, e3, e5]
    exact hq

/-- the end of a region, in other words -/
theorem PD.done {rnd : Option Nat} {z : Code} {Q : AX → PS → Prop} (ks ts : List Nat) {es : List (Nat × PV)} {fr' : List PRow} {tk' : List Nat} (hd : σ.done = 2 ^ os.length - 1) (h : (s.n, s.r0, s.t0, selB s.r0 s.fr.length ks, selB s.t0 s.tk.length ts, pickN s.tk ts, mapO (oneR s ks ts) ks, mapO (oneT s ks ts) es) = (s.n, s.r0, s.t0, true, true, tk', some fr', some (es.map Prod.snd)))
    (hq : PC P O rnd z (PS.ofm s.ms s.n es fr' tk' s.r0 s.t0) Q) : PD P O os cl base [] σ s (fun s1 => PC P O rnd z s1 Q) := by
  refine PD.nil hd (PC.weak (Weak.one ks ts ?_) hq)
  simp only [Prod.mk.injEq] at h ⊢
  exact h.2.2.2

end rules
end
end Go.Eng
/-
  Further rules for what printed walks use.
-/
namespace Go.Eng
noncomputable section
variable {P : Program} {O : Orc} {s : PS}

end
end Go.Eng
