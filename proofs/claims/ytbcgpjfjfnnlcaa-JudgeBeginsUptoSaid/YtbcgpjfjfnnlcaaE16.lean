/-
  The whole machine: what it tells of a call holds.
-/
import Derived.Test.YtbcgpjfjfnnlcaaE15
set_option linter.unusedSimpArgs false
namespace Go.Eng
noncomputable section
variable {P : Program}

structure RecOK2 (P : Program) (rec : Rec) : Prop extends RecOK P rec where
  rounds : ∀ r c a H x a' H', rec (.code r (.loop c) a) H = .ok (.out x a', H') → ∃ k, Rounds P r c x a' H' k a H

theorem step_call {rec : Rec} (hrec : RecOK P rec) {f : FuncId} {args : List Value} {H H' : AH} {v : Value} (h : aStep P rec (.call f args) H = .ok (.val v, H')) :
    (∃ fn c, P.funcs[f]? = some fn ∧ fn.body = some c ∧ (fn.name == "runtime.NumGoroutine") = false) ∧
    ∀ ρ W args' n, Rel ρ H W → LR ρ args args' → CallsIn (WF none) n P f args'.toArray W (CallPost ρ H W v H') := by
  simp only [aStep] at h
  obtain ⟨⟨fn, c⟩, h0, h⟩ := bok h
  obtain ⟨⟨res, H1⟩, h1, h2⟩ := bok h
  clear h
  obtain ⟨hfn, hc, _, _, hname'⟩ := bodyOf_ok h0
  refine ⟨⟨fn, c, hfn, hc, hname'⟩, fun ρ W args' n hR hl => ?_⟩
  have fin : ∀ x a1, res = .out x a1 → (x = .normal ∨ x = .ret) → (aLeave P rec a1.marks H1 >>= fun H2 => aResults P H2 a1 fn.results.toList >>= fun u => .ok (Res.val u, H2)) = (.ok (.val v, H') : R (Res × AH)) →
      CallsIn (WF none) n P f args'.toArray W (CallPost ρ H W v H') := by
    intro x a1 hres hx h3
    subst hres
    obtain ⟨H2, h4, h5⟩ := bok h3
    obtain ⟨u, h6, h7⟩ := bok h5
    cases h7
    refine callsIn_of_wp_marks (F := WF none) hfn hc trivial ?_ rfl
    refine wpIn_mono (body_sim hrec h0 h1 hR hl n) (fun e ca1 W1 hp => ?_)
    obtain ⟨rfl, ρ1, st1, ar1⟩ := hp
    have hleave : LeavesInM (WF none) n P fn ca1.tmps (CallPost ρ H W v H') ca1.defers .returning W1 := by
      refine leaves_sim hrec a1.marks ca1.defers ρ1 H1 H' W1 h4 st1.rel ar1.marks (fun ρ2 W2 st2 => ?_)
      obtain ⟨v', k1, k2⟩ := results_sim st2.rel (ar1.tm.mono st2.le) h6
      exact ⟨v', k1, ρ2, v', rfl, st1.trans st2, k2⟩
    rcases hx with rfl | rfl
    · exact hleave
    · exact hleave
  split at h2
  · rename_i a1 H1' hq
    cases hq
    exact fin .normal a1 rfl (.inl rfl) h2
  · rename_i a1 H1' hq
    cases hq
    exact fin .ret a1 rfl (.inr rfl) h2
  · cases h2

theorem step_callVal {rec : Rec} {f : FuncId} {args : List Value} {H H' : AH} {x : AX} {a : AAct} : aStep P rec (.call f args) H ≠ .ok (.out x a, H') := by
  intro h
  simp only [aStep] at h
  obtain ⟨⟨fn, c⟩, h0, h⟩ := bok h
  obtain ⟨⟨res, H1⟩, h1, h2⟩ := bok h
  split at h2
  · obtain ⟨H2, h4, h5⟩ := bok h2
    obtain ⟨u, h6, h7⟩ := bok h5
    cases h7
  · obtain ⟨H2, h4, h5⟩ := bok h2
    obtain ⟨u, h6, h7⟩ := bok h5
    cases h7
  · cases h2

theorem then_post {ρ ρ1 : Ren} {H H1 H' : AH} {W W1 : World} {x : AX} {a' : AAct} (hst : St ρ H W ρ1 H1 W1) {e : Exit} {ca : Act} {W' : World} (h : CodePost ρ1 H1 W1 x a' H' e ca W') : CodePost ρ H W x a' H' e ca W' := by
  obtain ⟨rfl, ρ2, st2, ar2⟩ := h
  exact ⟨rfl, ρ2, hst.trans st2, ar2⟩

/-- a loop over a function, once its record stands -/
theorem range_sim {rec : Rec} (hrec : RecOK P rec) {ρ : Ren} {H H1 H2 H' : AH} {W W1 : World} {r : Option Nat} {rc : Option Nat} {n : Nat} {g : Operand} {a a1 : AAct} {ca : Act} {mark : List Deferred} {x : AX} {a' : AAct}
    {f : FuncId} {first cap : Array Value} {u : Value} {lp : ALoop} {l bl : Nat} {pl : Pl}
    (hA : AR ρ a ca) (hr : RR ρ r rc) {ρ1 : Ren} (st1 : St ρ H W ρ1 H1 W1) (hpl : ρ1 l = some pl) (hbl : pl.blk = bl)
    (ha1 : AR ρ1 a1 { ca with defers := mark ++ ca.defers }) (hg : a.eval g = .ok (.func (.func f) first cap))
    (hcall : rec (.call f (first.toList ++ [.func (.yield l) #[] #[]] ++ cap.toList)) H1 = .ok (.val u, H2)) (hlp : H2.get l = some (.loop lp)) (hbusy : (lp.state == .busy) = false)
    (hend : (match lp.pending with
      | none => .ok (.out .normal a1, H2.set l (.loop { lp with state := .exhausted }))
      | some c => rec (.code r c a1) (H2.set l (.loop { lp with state := .exhausted }))) = (.ok (.out x a', H') : R (Res × AH))) :
    ∃ (d : Deferred) (f' : FuncId) (args : Array Value),
      (resolve ca.eval (rangeCall g bl) 0).run P W1 = .ok d W1 ∧
      (invoke d.target d.args).run P W1 = .ok (.enter f' args) W1 ∧
      CallsIn (WF rc) (n - 1) P f' args W1 (rangePost (WF rc) n P bl (CodePost ρ H W x a' H') { ca with defers := mark ++ ca.defers }) := by
  have hv := hA.eval g _ hg
  obtain ⟨⟨fn, c, f1, f2, f3⟩, hc⟩ := hrec.call _ _ _ _ _ hcall
  obtain ⟨fv, hfe⟩ : ∃ fv, ca.eval g = fv := ⟨_, rfl⟩
  rw [hfe] at hv
  cases hv with
  | func e1 e2 e3 e4 =>
    rename_i first' cap'
    refine ⟨{ target := .fn (.func f) cap', args := first' ++ #[.func (.yield bl) #[] #[]] }, f, (first'.toList ++ [Value.func (.yield bl) #[] #[]] ++ cap'.toList).toArray, ?_, ?_, ?_⟩
    · simp only [resolve, rangeCall, hfe, Deferred.ofValue, Sem.run_bind, Sem.run_pure, Result.andThen]
      simp
      rfl
    · have e : first' ++ #[Value.func (.yield bl) #[] #[]] ++ cap' = (first'.toList ++ [Value.func (.yield bl) #[] #[]] ++ cap'.toList).toArray := by
        apply Array.ext'; simp
      simp only [invoke, callFunc, run_program, Sem.run_bind, Result.andThen, f1, f2, f3, Bool.false_eq_true, if_false, Option.isNone_some, e, Sem.run_pure]
    · have hl : LR ρ1 (first.toList ++ [Value.func (.yield l) #[] #[]] ++ cap.toList) (first'.toList ++ [Value.func (.yield bl) #[] #[]] ++ cap'.toList) := by
        refine LR.append (LR.append (LR.mono st1.le ⟨e1, e2⟩) ?_) (LR.mono st1.le ⟨e3, e4⟩)
        subst hbl
        exact LR.cons (.yield hpl) (LR.nil _)
      have := hc ρ1 W1 _ (n - 1) st1.rel hl
      refine CallsIn.mono (F := WF rc) this (fun e W2 hp => ?_)
      obtain ⟨ρ2, v', rfl, st2, hvr⟩ := hp
      have hp2 := st2.le _ _ hpl
      obtain ⟨fn2, tmps2, pm2, q1, q2, q3⟩ := loop_at st2.rel hlp hp2
      rw [hbl] at q1
      have st3 := St.setLoop (r' := { lp with state := .exhausted }) st2.rel hlp hp2 (fn := fn2) (tmps := tmps2) (pm := pm2) q2 q3
      rw [hbl] at st3
      have hrun : (Instr.endLoop bl).run P W2 = .ok lp.pending { W2 with heap := W2.heap.setIfInBounds bl (.loop { state := .exhausted, pending := lp.pending, fn := fn2, tmps := tmps2, params := lp.params.toArray, assign := lp.assign, body := lp.body, defers := pm2.blk }) } := by
        unfold Instr.endLoop
        simp only [Sem.run_bind, run_getLoop' q1, Result.andThen, hbusy, Bool.false_eq_true, if_false, run_setObj' q1 (by intro c t f e; cases e), Sem.run_pure]
      dsimp only at st3
      generalize ({ W2 with heap := W2.heap.setIfInBounds bl (.loop { state := .exhausted, pending := lp.pending, fn := fn2, tmps := tmps2, params := lp.params.toArray, assign := lp.assign, body := lp.body, defers := pm2.blk }) } : World) = W3 at hrun st3
      refine ⟨lp.pending, W3, hrun, ?_⟩
      have st13 := (st1.trans st2).trans st3
      have ha3 := (ha1.mono st2.le).mono st3.le
      have hr3 := ((hr.mono st1.le).mono st2.le).mono st3.le
      have hR3 := st3.rel
      clear st3 st2 st1 ha1 hr hrun hc q1 q2 q3 hl hvr
      generalize H2.set l (.loop { lp with state := .exhausted }) = H3 at hend st13 hR3
      generalize lp.pending = pe at hend
      cases pe with
      | none =>
        simp only at hend
        cases hend
        exact ⟨rfl, ρ2, st13, ha3⟩
      | some c0 =>
        simp only at hend
        exact wpIn_mono (hrec.code r c0 a1 _ x a' H' hend ρ2 W3 _ rc n hR3 ha3 hr3) (fun e ca2 W3 hp => then_post st13 hp)

theorem step_code {rec : Rec} (hrec : RecOK2 P rec) {r : Option Nat} {c : Code} {a : AAct} {H : AH} {x : AX} {a' : AAct} {H' : AH} (h : aStep P rec (.code r c a) H = .ok (.out x a', H')) : CodeOK P r c a H x a' H' ∧
    ∀ c', c = .loop c' → ∃ k, Rounds P r c' x a' H' k a H := by
  cases c with
  | skip =>
    simp only [aStep] at h; cases h
    exact ⟨fun ρ W ca rc n hR hA hr => wpIn_skip ⟨rfl, ρ, St.refl hR, hA⟩, fun c' e => by cases e⟩
  | label l =>
    simp only [aStep] at h; cases h
    exact ⟨fun ρ W ca rc n hR hA hr => wpIn_label ⟨rfl, ρ, St.refl hR, hA⟩, fun c' e => by cases e⟩
  | ret =>
    simp only [aStep] at h; cases h
    exact ⟨fun ρ W ca rc n hR hA hr => wpIn_ret ⟨rfl, ρ, St.refl hR, hA⟩, fun c' e => by cases e⟩
  | exit id =>
    simp only [aStep] at h; cases h
    exact ⟨fun ρ W ca rc n hR hA hr => wpIn_exit ⟨rfl, ρ, St.refl hR, hA⟩, fun c' e => by cases e⟩
  | goto l =>
    simp only [aStep] at h; cases h
    exact ⟨fun ρ W ca rc n hR hA hr => wpIn_goto ⟨rfl, ρ, St.refl hR, hA⟩, fun c' e => by cases e⟩
  | seq c1 c2 =>
    refine ⟨fun ρ W ca rc n hR hA hr => ?_, fun c' e => by cases e⟩
    simp only [aStep] at h
    obtain ⟨⟨res, H1⟩, h1, h2⟩ := bok h
    cases res with
    | val v => exact absurd h1 (hrec.codeOut _ _ _ _ _ _)
    | out x1 a1 =>
      refine wpIn_seq (wpIn_mono (hrec.code r c1 a H x1 a1 H1 h1 ρ W ca rc n hR hA hr) (fun e ca1 W1 hp => ?_))
      cases x1 with
      | normal =>
        simp only at h2
        obtain ⟨rfl, ρ1, st1, ar1⟩ := hp
        exact wpIn_mono (hrec.code r c2 a1 H1 x a' H' h2 ρ1 W1 ca1 rc n st1.rel ar1 (hr.mono st1.le)) (fun e ca2 W2 hp => then_post st1 hp)
      | exit id => simp only at h2; cases h2; have := hp.1; subst this; exact hp
      | goto l => simp only at h2; cases h2; have := hp.1; subst this; exact hp
      | ret => simp only at h2; cases h2; have := hp.1; subst this; exact hp
  | cond o c1 c2 =>
    refine ⟨fun ρ W ca rc n hR hA hr => ?_, fun c' e => by cases e⟩
    simp only [aStep] at h
    obtain ⟨v, h1, h2⟩ := bok h
    have hv := hA.eval o _ h1
    split at h2
    · rename_i b
      refine wpIn_cond hv.bool_inv ?_
      have := hrec.code r _ a H x a' H' h2 ρ W ca rc n hR hA hr
      cases b <;> exact this
    · cases h2
  | block id c1 =>
    refine ⟨fun ρ W ca rc n hR hA hr => ?_, fun c' e => by cases e⟩
    simp only [aStep] at h
    obtain ⟨⟨res, H1⟩, h1, h2⟩ := bok h
    cases res with
    | val v => exact absurd h1 (hrec.codeOut _ _ _ _ _ _)
    | out x1 a1 =>
      refine wpIn_block (wpIn_mono (hrec.code r c1 a H x1 a1 H1 h1 ρ W ca rc n hR hA hr) (fun e ca1 W1 hp => ?_))
      cases x1 with
      | exit j =>
        simp only at h2
        cases h2
        obtain ⟨rfl, ρ1, st1, ar1⟩ := hp
        by_cases e : j = id
        · subst e
          simp only [convX, Exit.inBlock, if_true]
          exact ⟨by simp [convX], ρ1, st1, ar1⟩
        · simp only [convX, Exit.inBlock, if_neg e]
          exact ⟨by simp [convX], ρ1, st1, ar1⟩
      | normal => simp only at h2; cases h2; have := hp.1; subst this; exact hp
      | goto l => simp only at h2; cases h2; have := hp.1; subst this; exact hp
      | ret => simp only at h2; cases h2; have := hp.1; subst this; exact hp
  | loop c1 =>
    simp only [aStep] at h
    obtain ⟨⟨res, H1⟩, h1, h2⟩ := bok h
    have key : ∃ k, Rounds P r c1 x a' H' k a H := by
      cases res with
      | val v => exact absurd h1 (hrec.codeOut _ _ _ _ _ _)
      | out x1 a1 =>
        have hok : CodeOK P r c1 a H x1 a1 H1 := hrec.code r c1 a H x1 a1 H1 h1
        cases x1 with
        | normal =>
          simp only at h2
          obtain ⟨k, hk⟩ := hrec.rounds r c1 a1 H1 x a' H' h2
          exact ⟨k + 1, .more hok hk⟩
        | exit id => simp only at h2; cases h2; exact ⟨0, .stop (by intro e; cases e) hok⟩
        | goto l => simp only at h2; cases h2; exact ⟨0, .stop (by intro e; cases e) hok⟩
        | ret => simp only at h2; cases h2; exact ⟨0, .stop (by intro e; cases e) hok⟩
    exact ⟨let ⟨k, hk⟩ := key; hk.ok, fun c' e => by cases e; exact key⟩
  | region id ops draw =>
    refine ⟨fun ρ W ca rc n hR hA hr => ?_, fun c' e => by cases e⟩
    cases draw with
    | false =>
      simp only [aStep] at h
      obtain ⟨⟨a1, H1⟩, h1, h2⟩ := bok h
      cases h2
      refine wpIn_region (ops_sim hrec.toRecOK r rc (fun e => by subst e; cases rc with | none => rfl | some b => exact hr.elim) n ops.toList (List.range ops.size) a _ ca ρ H _ W h1 (by simp) (fun k i o hk ho => ?_) hR hA (fun ρ' ca' W' st ar => ⟨rfl, ρ', st, ar⟩))
      have hlt : k < ops.size := by
        have := lt_of_get ho
        simpa using this
      rw [List.getElem?_range hlt] at hk
      cases hk
      simpa using ho
    | true =>
      simp only [aStep] at h
      split at h
      · cases h
      rename_i hm
      obtain ⟨⟨a1, H1⟩, h1, h2⟩ := bok h
      cases h2
      have hs := St.drawn (W' := { W with drawn := W.drawn + 1 }) hR rfl rfl rfl rfl
      exact wpIn_region_any (by simpa using hm) (draw_sim hrec.toRecOK h1 hs.rel hA rc n (fun ρ' ca' W' st ar => ⟨rfl, ρ', hs.trans st, ar⟩))
  | rangeFunc g params assign body =>
    refine ⟨fun ρ W ca rc n hR hA hr => ?_, fun c' e => by cases e⟩
    simp only [aStep] at h
    cases r with
    | some l0 =>
      cases rc with
      | none => exact hr.elim
      | some b =>
        obtain ⟨pl0, hpl0, hb0⟩ := hr
        simp only at h
        obtain ⟨⟨mk, a1, H0⟩, h1, h2⟩ := bok h
        clear h
        split at h1
        · rename_i r0 hr0
          cases h1
          simp only at h2
          obtain ⟨⟨l, H1⟩, h3, h4⟩ := bok h2
          clear h2
          simp only at h4
          obtain ⟨gv, h5, h6⟩ := bok h4
          clear h4
          split at h6
          · rename_i f first cap
            obtain ⟨⟨res, H2⟩, h7, h8⟩ := bok h6
            clear h6
            cases res with
            | out x1 a1 => exact absurd h7 (hrec.callVal _ _ _ _ _ _)
            | val u =>
              simp only at h8
              split at h8
              · rename_i lp hlp
                split at h8
                · cases h8
                rename_i hbusy
                refine wpIn_rangeFunc (fun fn _ => ?_)
                obtain ⟨fn0, tmps0, pm0, w1, w2, w3⟩ := loop_at hR hr0 hpl0
                rw [hb0] at w1
                have hent : (Instr.enterLoop fn ca.tmps params assign body (some b)).run P W = .ok (W.heap.size, []) { W with heap := W.heap.push (.loop { state := .ready, pending := none, fn := fn, tmps := ca.tmps, params := params, assign := assign, body := body, defers := pm0.blk }) } := by
                  unfold Instr.enterLoop
                  simp only [Sem.run_bind, run_getLoop' w1, Result.andThen, Sem.run_pure, run_newObj]
                have hid := (AH.new_ok h3).1
                subst hid
                have st1 := St.new (pl := ⟨W.heap.size, 0, 0, 0⟩) (W' := { W with heap := W.heap.push (.loop { state := .ready, pending := none, fn := fn, tmps := ca.tmps, params := params, assign := assign, body := body, defers := pm0.blk }) }) hR h3 _ rfl rfl rfl rfl rfl
                  ⟨fn, ca.tmps, pm0, by simp, hA.tm.mono (Ren.le_with hR _), Ren.le_with hR _ _ _ w3⟩
                obtain ⟨d, f', args, k1, k2, k3⟩ := range_sim (n := n) (mark := []) (pl := ⟨W.heap.size, 0, 0, 0⟩) hrec.toRecOK hA (show RR ρ (some l0) (some b) from ⟨pl0, hpl0, hb0⟩) st1 (by simp [Ren.with]) rfl (hA.mono st1.le) h5 h7 hlp (by simpa using hbusy) h8
                exact ⟨W.heap.size, [], _, d, _, f', args, _, hent, k1, fun f' _ => trivial, k2, (fun hd => by cases hd), k3⟩
              · cases h8
          · cases h6
        · cases h1
    | none =>
      cases rc with
      | some b => exact hr.elim
      | none =>
        simp only at h
        obtain ⟨⟨mk, a1, H0⟩, h1, h2⟩ := bok h
        clear h
        obtain ⟨⟨m, H0'⟩, h1a, h1b⟩ := bok h1
        clear h1
        cases h1b
        simp only at h2
        obtain ⟨⟨l, H1⟩, h3, h4⟩ := bok h2
        clear h2
        simp only at h4
        obtain ⟨gv, h5, h6⟩ := bok h4
        clear h4
        split at h6
        · rename_i f first cap
          obtain ⟨⟨res, H2⟩, h7, h8⟩ := bok h6
          clear h6
          cases res with
          | out x1 a1 => exact absurd h7 (hrec.callVal _ _ _ _ _ _)
          | val u =>
            simp only at h8
            split at h8
            · rename_i lp hlp
              split at h8
              · cases h8
              rename_i hbusy
              refine wpIn_rangeFunc (fun fn _ => ?_)
              have st0 := St.new (pl := ⟨W.heap.size, 0, 0, 0⟩) (W' := { W with heap := W.heap.push (.deferred (some [])) }) hR h1a _ rfl rfl rfl rfl rfl (by show (W.heap.push _)[W.heap.size]? = _; simp)
              have hidm := (AH.new_ok h1a).1
              have hent : (Instr.enterLoop fn ca.tmps params assign body none).run P W = .ok (W.heap.size + 1, [{ target := .collected W.heap.size, args := #[] }])
                  { W with heap := (W.heap.push (.deferred (some []))).push (.loop { state := .ready, pending := none, fn := fn, tmps := ca.tmps, params := params, assign := assign, body := body, defers := W.heap.size }) } := by
                unfold Instr.enterLoop
                simp only [Sem.run_bind, run_newObj, Result.andThen, Sem.run_pure, Array.size_push]
              have hmk : (ρ.with m ⟨W.heap.size, 0, 0, 0⟩) m = some ⟨W.heap.size, 0, 0, 0⟩ := by simp [Ren.with]
              have hA0 := hA.mono st0.le
              have hid := (AH.new_ok h3).1
              subst hid
              have st1 := St.new (pl := ⟨W.heap.size + 1, 0, 0, 0⟩) (W' := { W with heap := (W.heap.push (.deferred (some []))).push (.loop { state := .ready, pending := none, fn := fn, tmps := ca.tmps, params := params, assign := assign, body := body, defers := W.heap.size }) }) st0.rel h3 _ rfl rfl rfl rfl (by simp)
                ⟨fn, ca.tmps, ⟨W.heap.size, 0, 0, 0⟩, by rw [Array.getElem?_push]; simp, hA0.tm.mono (Ren.le_with st0.rel _), Ren.le_with st0.rel _ _ _ hmk⟩
              have hA1 := hA0.mono st1.le
              obtain ⟨d, f', args, k1, k2, k3⟩ := range_sim (n := n) (mark := [{ target := .collected W.heap.size, args := #[] }]) (pl := ⟨W.heap.size + 1, 0, 0, 0⟩) hrec.toRecOK hA hr (st0.trans st1) (by simp [Ren.with]) rfl
                (a1 := { a with marks := .mark m :: a.marks }) ⟨hA1.tm, hA1.marks.cons ⟨_, st1.le _ _ hmk, rfl⟩⟩ h5 h7 hlp (by simpa using hbusy) h8
              exact ⟨W.heap.size + 1, [{ target := .collected W.heap.size, args := #[] }], _, d, _, f', args, _, hent, k1, fun f' _ => trivial, k2, (fun hd => by cases hd), k3⟩
            · cases h8
        · cases h6
  | _ => simp only [aStep] at h; cases h

theorem step_codeOut {rec : Rec} (hrec : RecOK P rec) {r : Option Nat} {c : Code} {a : AAct} {H : AH} {v : Value} {H' : AH} : aStep P rec (.code r c a) H ≠ .ok (.val v, H') := by
  intro h
  cases c with
  | skip => simp only [aStep] at h; cases h
  | label l => simp only [aStep] at h; cases h
  | ret => simp only [aStep] at h; cases h
  | exit id => simp only [aStep] at h; cases h
  | goto l => simp only [aStep] at h; cases h
  | seq c1 c2 =>
    simp only [aStep] at h
    obtain ⟨⟨res, H1⟩, h1, h2⟩ := bok h
    cases res with
    | val v => exact hrec.codeOut _ _ _ _ _ _ h1
    | out x1 a1 =>
      cases x1 with
      | normal => exact hrec.codeOut _ _ _ _ _ _ h2
      | exit id => cases h2
      | goto l => cases h2
      | ret => cases h2
  | cond o c1 c2 =>
    simp only [aStep] at h
    obtain ⟨v, h1, h2⟩ := bok h
    split at h2
    · exact hrec.codeOut _ _ _ _ _ _ h2
    · cases h2
  | block id c1 =>
    simp only [aStep] at h
    obtain ⟨⟨res, H1⟩, h1, h2⟩ := bok h
    cases res with
    | val v => exact hrec.codeOut _ _ _ _ _ _ h1
    | out x1 a1 => cases x1 <;> cases h2
  | loop c1 =>
    simp only [aStep] at h
    obtain ⟨⟨res, H1⟩, h1, h2⟩ := bok h
    cases res with
    | val v => exact hrec.codeOut _ _ _ _ _ _ h1
    | out x1 a1 =>
      cases x1 with
      | normal => exact hrec.codeOut _ _ _ _ _ _ h2
      | exit id => cases h2
      | goto l => cases h2
      | ret => cases h2
  | region id ops draw =>
    cases draw with
    | false =>
      simp only [aStep] at h
      obtain ⟨⟨a1, H1⟩, h1, h2⟩ := bok h
      cases h2
    | true =>
      simp only [aStep] at h
      split at h
      · cases h
      obtain ⟨⟨a1, H1⟩, h1, h2⟩ := bok h
      cases h2
  | rangeFunc g params assign body =>
    simp only [aStep] at h
    obtain ⟨⟨mk, a1, H0⟩, h1, h2⟩ := bok h
    simp only at h2
    obtain ⟨⟨l, H1⟩, h3, h4⟩ := bok h2
    simp only at h4
    obtain ⟨gv, h5, h6⟩ := bok h4
    split at h6
    · obtain ⟨⟨res, H2⟩, h7, h8⟩ := bok h6
      cases res with
      | out x1 a1 => cases h8
      | val u =>
        simp only at h8
        split at h8
        · split at h8
          · cases h8
          · split at h8
            · cases h8
            · exact hrec.codeOut _ _ _ _ _ _ h8
        · cases h8
    · cases h6
  | _ => simp only [aStep] at h; cases h

theorem aRun_ok : ∀ n, RecOK2 P (aRun P n)
  | 0 => ⟨⟨fun f args H v H' h => (by simp only [aRun] at h; cases h), fun r c a H x a' H' h => (by simp only [aRun] at h; cases h), fun f args H x a H' h => (by simp only [aRun] at h; cases h), fun r c a H v H' h => (by simp only [aRun] at h; cases h)⟩,
      fun r c a H x a' H' h => (by simp only [aRun] at h; cases h)⟩
  | n + 1 =>
    have ih := aRun_ok n
    ⟨⟨fun _ _ _ _ _ h => step_call ih.toRecOK h, fun _ _ _ _ _ _ _ h => (step_code ih h).1, fun _ _ _ _ _ _ h => step_callVal h, fun _ _ _ _ _ _ h => step_codeOut ih.toRecOK h⟩,
      fun _ _ _ _ _ _ _ h => (step_code ih h).2 _ rfl⟩

theorem Rel.empty (W : World) : Rel (fun _ => none) AH.empty W :=
  ⟨fun id pl h => (by cases h), (by decide), fun id o h => (by cases h), fun i j oi oj pi pj h => (by cases h)⟩

end
end Go.Eng
