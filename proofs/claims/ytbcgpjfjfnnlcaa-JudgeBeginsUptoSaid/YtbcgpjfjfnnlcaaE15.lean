/-
  Code and calls: the abstract machine goes along with the model.
-/
import Derived.Test.YtbcgpjfjfnnlcaaE14
set_option linter.unusedSimpArgs false
namespace Go.Eng
noncomputable section
variable {P : Program}

/-! ### A call's first temporaries -/
theorem start_go : ∀ (args : List Value) (k : Nat) (t0 : T Value), k + args.length ≤ 1000000 → ∀ j, ((args.zipIdx k).foldl (fun t (p : Value × Nat) => T.put AH.top t p.2 p.1) t0).get j = if k ≤ j ∧ j < k + args.length then args[j - k]? else t0.get j
  | [], k, t0, _, j => by
    rw [if_neg (by simp)]
    rfl
  | v :: args, k, t0, h, j => by
    simp only [List.length_cons] at h
    rw [List.zipIdx_cons, List.foldl_cons, start_go args (k + 1) _ (by omega) j]
    rw [show (T.put AH.top t0 k v).get j = if j = k then some v else t0.get j from T.get_put 48 _ _ _ _ (by
      rw [show (2:Nat) ^ 48 = 281474976710656 from rfl]; omega)]
    simp only [List.length_cons]
    by_cases e : j = k
    · subst e
      rw [if_neg (by omega), if_pos rfl, if_pos ⟨Nat.le_refl _, by omega⟩]
      simp
    · by_cases h2 : k + 1 ≤ j ∧ j < k + 1 + args.length
      · rw [if_pos h2, if_pos ⟨by omega, by omega⟩, show j - k = (j - (k + 1)) + 1 by omega, List.getElem?_cons_succ]
      · rw [if_neg h2, if_neg e, if_neg (by omega)]

theorem start_TR {ρ : Ren} {args args' : List Value} {n : Nat} (h : LR ρ args args') (h1 : args.length ≤ n) (h2 : args.length ≤ 1000000) :
    TR ρ (startAct n args).tm n (args'.toArray ++ Array.replicate (n - args'.toArray.size) undef) := by
  have hl := h.1
  refine ⟨by simp; omega, fun t => ?_⟩
  have hg : (startAct n args).tm.get t = if 0 ≤ t ∧ t < 0 + args.length then args[t - 0]? else (T.full 10 : T Value).get t := start_go args 0 _ (by omega) t
  rw [hg]
  by_cases ht : t < args.length
  · rw [if_pos ⟨Nat.zero_le _, by omega⟩, Nat.sub_zero]
    obtain ⟨v', h3, h4⟩ := h.get (List.getElem?_eq_getElem ht)
    rw [List.getElem?_eq_getElem ht]
    have e : (args'.toArray ++ Array.replicate (n - args'.toArray.size) undef).getD t undef = v' := by
      rw [Array.getD_eq_getD_getElem?, Array.getElem?_append_left (by simp; omega)]
      simp [h3]
    rw [e]
    exact h4
  · rw [if_neg (by omega)]
    have e : (args'.toArray ++ Array.replicate (n - args'.toArray.size) undef).getD t undef = undef := by
      rw [Array.getD_eq_getD_getElem?, Array.getElem?_append_right (by simp; omega), Array.getElem?_replicate]
      split <;> rfl
    rw [e, T.get_full]
    exact VR.undef ρ

/-! ### Results -/
def resOf (tmps : Array Value) : ResultVar → Sem Value
  | .tmp t => pure (tmps.getD t undef)
  | .cell a t => do loadVar t (← asAddr (tmps.getD a undef))

theorem results_eq (fn : Func) (tmps : Array Value) : results fn tmps = (do
    let vs ← fn.results.mapM (resOf tmps)
    pure (if h : vs.size = 1 then vs[0] else .tuple vs)) := rfl

theorem results_sim {ρ : Ren} {H : AH} {W : World} {a : AAct} {tmps : Array Value} {fn : Func} {v : Value} (h : Rel ρ H W) (ht : TR ρ a.tm a.n tmps) (hr : aResults P H a fn.results.toList = .ok v) :
    ∃ v', (results fn tmps).run P W = .ok v' W ∧ VR ρ v v' := by
  unfold aResults at hr
  obtain ⟨vs, h1, h2⟩ := bok hr
  obtain ⟨h3, h4⟩ := allR_spec h1
  let g : ResultVar → Value := fun r => match (resOf tmps r).run P W with
    | .ok v _ => v
    | _ => undef
  have key : ∀ r y, (match r with
      | .tmp t => .ok ((a.tm.get t).getD undef)
      | .cell t ty => do
        let (id, off) ← addrOf ((a.tm.get t).getD undef)
        aLoad P H ty id off : R Value) = .ok y → (resOf tmps r).run P W = .ok (g r) W ∧ VR ρ y (g r) := fun r y hy => by
    have one : ∀ u, (resOf tmps r).run P W = .ok u W → VR ρ y u → (resOf tmps r).run P W = .ok (g r) W ∧ VR ρ y (g r) := fun u e hv => by
      have : g r = u := by show (match (resOf tmps r).run P W with | .ok v _ => v | _ => undef) = u; rw [e]
      rw [this]
      exact ⟨e, hv⟩
    cases r with
    | tmp t => cases hy; exact one _ rfl (ht.2 t)
    | cell t ty =>
      simp only at hy
      obtain ⟨⟨id, off⟩, k1, k2⟩ := bok hy
      have hv := ht.2 t
      rw [addrOf_ok k1] at hv
      obtain ⟨pl, p1, p2⟩ := hv.at
      obtain ⟨u, q1, q2⟩ := run_loadVar' (P := P) h p1 k2
      refine one u ?_ q2
      simp only [resOf, p2, asAddr, Sem.run_bind, Sem.run_pure, Result.andThen, q1]
  have hrun : (fn.results.mapM (resOf tmps)).run P W = .ok (fn.results.toList.map g).toArray W := by
    refine run_arrayMapM (P := P) (resOf tmps) g W fn.results (fun x hx => ?_)
    obtain ⟨i, hi⟩ := List.mem_iff_getElem?.1 hx
    obtain ⟨y, _, hy⟩ := h4 i x hi
    exact (key x y hy).1
  have hl : LR ρ vs (fn.results.toList.map g) := by
    refine ⟨by simp [h3], fun i u u' hu hu' => ?_⟩
    rw [List.getElem?_map] at hu'
    cases hx : fn.results.toList[i]? with
    | none => rw [hx] at hu'; cases hu'
    | some x =>
      rw [hx] at hu'
      cases hu'
      obtain ⟨y, hy1, hy2⟩ := h4 i x hx
      rw [hu] at hy1
      cases hy1
      exact (key x _ hy2).2
  rw [results_eq]
  simp only [Sem.run_bind, hrun, Result.andThen, Sem.run_pure]
  generalize fn.results.toList.map g = us at hl
  split at h2
  · rename_i w0
    cases h2
    obtain ⟨v', m', e1, e2, e3⟩ := hl.cons_inv
    have := e3.nil_inv
    subst this
    subst e1
    exact ⟨v', by simp, e2⟩
  · rename_i hne
    cases h2
    have hsz : ¬ us.toArray.size = 1 := fun e => by
      have : vs.length = 1 := by rw [hl.1]; simpa using e
      obtain ⟨x, rfl⟩ := List.length_eq_one_iff.1 this
      exact hne x rfl
    exact ⟨.tuple us.toArray, by rw [dif_neg hsz], VR.tuple' hl⟩

/-! ### Marks -/
theorem run_takeDeferred' {W : World} {b : Nat} (h : W.heap[b]? = some (.deferred (some []))) : (Instr.takeDeferred b).run P W = .ok [] { W with heap := W.heap.setIfInBounds b (.deferred none) } := by
  unfold Instr.takeDeferred
  simp only [Sem.run_bind, run_getObj' h (by intro c t f e; cases e), Result.andThen, run_setObj' h (by intro c t f e; cases e), Sem.run_pure]

theorem bodyOf_ok {f : FuncId} {args : List Value} {fn : Func} {c : Code} (h : bodyOf P f args = .ok (fn, c)) : P.funcs[f]? = some fn ∧ fn.body = some c ∧ args.length ≤ fn.ntmps ∧ args.length ≤ 1000000 ∧ (fn.name == "runtime.NumGoroutine") = false := by
  unfold bodyOf at h
  split at h
  · rename_i fn' hf
    split at h
    · rename_i c' hc
      split at h
      · cases h
      split at h
      · cases h
      split at h
      · cases h
      rename_i h1 h2 h3
      cases h
      exact ⟨hf, hc, by omega, by omega, by simpa using h3⟩
    · cases h
  · cases h

/-- a body, begun -/
theorem body_sim {rec : Rec} (hrec : RecOK P rec) {f : FuncId} {args args' : List Value} {fn : Func} {c : Code} (h : bodyOf P f args = .ok (fn, c)) {H H1 : AH} {x : AX} {a1 : AAct} (h1 : rec (.code none c (startAct fn.ntmps args)) H = .ok (.out x a1, H1))
    {ρ : Ren} {W : World} (hR : Rel ρ H W) (hl : LR ρ args args') (n : Nat) : c.wpIn (WF none) n P (CodePost ρ H W x a1 H1) { tmps := args'.toArray ++ Array.replicate (fn.ntmps - args'.toArray.size) undef, defers := [] } W := by
  obtain ⟨_, _, h2, h3, _⟩ := bodyOf_ok h
  exact hrec.code none c _ H x a1 H1 h1 ρ W _ none n hR ⟨start_TR hl h2 h3, ⟨rfl, fun i m d hm => by simp [startAct] at hm⟩⟩ trivial

theorem leaves_sim {rec : Rec} (hrec : RecOK P rec) {n : Nat} {fn : Func} {tmps : Array Value} {R : Ending → World → Prop} : ∀ (ms : List ADef) (ds : List Deferred) (ρ : Ren) (H H1 : AH) (W : World), aLeave P rec ms H = .ok H1 → Rel ρ H W → MR ρ ms ds →
    (∀ ρ' W1, St ρ H W ρ' H1 W1 → LeavesIn (WF none) n P fn tmps R [] .returning W1) → LeavesInM (WF none) n P fn tmps R ds .returning W
  | [], ds, ρ, H, H1, W, h, hR, hm, hk => by
    have : ds = [] := by have := hm.1; simp at this; exact List.length_eq_zero_iff.1 this.symm
    subst this
    simp only [aLeave] at h
    cases h
    exact hk ρ W (St.refl hR)
  | m :: ms, [], ρ, H, H1, W, h, hR, hm, hk => by have := hm.1; simp at this
  | .mark m :: ms, d :: ds, ρ, H, H1, W, h, hR, hm, hk => by
    obtain ⟨pl, hp, rfl⟩ := hm.2 0 (.mark m) d rfl rfl
    simp only [aLeave] at h
    split at h
    · rename_i hg
      obtain ⟨p0, hp0, hblt, hor⟩ := hR.obj m _ hg
      rw [hp] at hp0; cases hp0
      have hst : St ρ H W ρ (H.set m (.mark false)) { W with heap := W.heap.setIfInBounds pl.blk (.deferred none) } := by
        refine St.setObj hR hg rfl hp _ ?_
        show (W.heap.setIfInBounds pl.blk (Obj.deferred none))[pl.blk]? = _
        simp [hblt]
      refine ⟨(by intro e; cases e), .inl ⟨pl.blk, _, rfl, run_takeDeferred' hor, ?_⟩⟩
      exact leaves_sim hrec ms ds ρ _ H1 _ h hst.rel ⟨by have := hm.1; simpa using this, fun i m' d' h1 h2 => hm.2 (i + 1) m' d' (by simpa using h1) (by simpa using h2)⟩ (fun ρ' W1 hs => hk ρ' W1 (hst.trans hs))
    · cases h
  | .call f l :: ms, d :: ds, ρ, H, H1, W, h, hR, hm, hk => by
    obtain ⟨cap, args, rfl, hl⟩ := hm.2 0 (.call f l) d rfl rfl
    have htail : MR ρ ms ds := ⟨by have := hm.1; simpa using this, fun i m' d' h1 h2 => hm.2 (i + 1) m' d' (by simpa using h1) (by simpa using h2)⟩
    simp only [aLeave] at h
    obtain ⟨⟨fn1, c⟩, h1, h2⟩ := bok h
    clear h
    obtain ⟨⟨res, H2⟩, h3, h4⟩ := bok h2
    clear h2
    obtain ⟨b1, b2, _, _, b5⟩ := bodyOf_ok h1
    have fin : ∀ x a1, res = .out x a1 → (x = .normal ∨ x = .ret) → (if a1.marks.isEmpty = true then aResults P H2 a1 fn1.results.toList >>= fun _ => aLeave P rec ms H2 else .error 980) = (.ok H1 : Except Nat AH) →
        LeavesInM (WF none) n P fn tmps R ({ target := .fn (.func f) cap, args := args } :: ds) .returning W := by
      intro x a1 hres hx h5
      subst hres
      split at h5
      case isFalse => cases h5
      rename_i hem
      obtain ⟨v, h6, h7⟩ := bok h5
      have hcallargs : (args ++ cap).toList = args.toList ++ cap.toList := by simp
      refine ⟨(by intro e; cases e), .inr ⟨fun hd => (by cases hd), .func f, cap, f, args ++ cap, rfl, ?_, fun g _ => trivial, ?_⟩⟩
      · simp only [invoke, callFunc, run_program, Sem.run_bind, Result.andThen, b1, b2, b5, Bool.false_eq_true, if_false, Option.isNone_some, Sem.run_pure]
      · have hw := body_sim hrec h1 h3 hR hl (n - 1)
        have e : (args.toList ++ cap.toList).toArray = args ++ cap := by apply Array.ext'; simp
        rw [e] at hw
        refine CallsDIn.mono (callsDIn_of_wp (F := WF none) (R := fun e W1 => ∃ v' ρ1, e = .returned v' ∧ St ρ H W ρ1 H2 W1) b1 b2 trivial (wpIn_mono hw (fun e ca1 W1 hp => ?_)) rfl) (fun e u' W1 hp => ?_)
        · obtain ⟨rfl, ρ1, st1, ar1⟩ := hp
          have hdef : ca1.defers = [] := by
            have := ar1.marks.1
            have hnil : a1.marks = [] := by simpa using hem
            rw [hnil] at this
            exact List.length_eq_zero_iff.1 this.symm
          obtain ⟨v', k1, k2⟩ := results_sim st1.rel ar1.tm h6
          rcases hx with rfl | rfl
          · exact ⟨hdef, v', k1, v', ρ1, rfl, st1⟩
          · exact ⟨hdef, v', k1, v', ρ1, rfl, st1⟩
        · obtain ⟨rfl, v', ρ1, rfl, st1⟩ := hp
          exact leaves_sim hrec ms ds ρ1 H2 H1 W1 h7 st1.rel (htail.mono st1.le) (fun ρ' W2 hs => hk ρ' W2 (st1.trans hs))
    split at h4
    · rename_i a1 H2' hq
      cases hq
      exact fin .normal a1 rfl (.inl rfl) h4
    · rename_i a1 H2' hq
      cases hq
      exact fin .ret a1 rfl (.inr rfl) h4
    · cases h4

/-! ### Loops -/
theorem least {K : Nat → Prop} (h : ∃ k, K k) : ∃ k, K k ∧ ∀ j, K j → k ≤ j := by
  obtain ⟨k, hk⟩ := h
  induction k using Nat.strongRecOn with
  | _ k ih =>
    by_cases hx : ∃ j, j < k ∧ K j
    · obtain ⟨j, h1, h2⟩ := hx
      exact ih j h1 h2
    · exact ⟨k, hk, fun j hj => by
        rcases Nat.lt_or_ge j k with h' | h'
        · exact absurd ⟨j, h', hj⟩ hx
        · exact h'⟩

open Classical in
theorem loop_wp {F : Fence} {n : Nat} {c : Code} {Q : Exit → Act → World → Prop} {K : Nat → Act → World → Prop}
    (h : ∀ k a w, K k a w → c.wpIn F n P (Exit.then (fun a' w' => ∃ k', k' < k ∧ K k' a' w') Q) a w) {k : Nat} {a : Act} {w : World} (hk : K k a w) : (Code.loop c).wpIn F n P Q a w := by
  let μ : Act → World → Nat := fun a w => if h : ∃ k, K k a w then Classical.choose (least h) else 0
  have hμ : ∀ a w, (∃ k, K k a w) → K (μ a w) a w ∧ ∀ j, K j a w → μ a w ≤ j := fun a w hx => by
    have e : μ a w = Classical.choose (least hx) := dif_pos hx
    rw [e]
    exact Classical.choose_spec (least hx)
  refine wpIn_loop (fun a w => ∃ k, K k a w) μ ⟨k, hk⟩ (fun a w hx => ?_)
  obtain ⟨h1, _⟩ := hμ a w hx
  refine wpIn_mono (h _ a w h1) (fun e a' w' hq => ?_)
  cases e with
  | normal =>
    obtain ⟨k', h2, h3⟩ := hq
    exact ⟨⟨k', h3⟩, Nat.lt_of_le_of_lt ((hμ a' w' ⟨k', h3⟩).2 k' h3) h2⟩
  | exit id => exact hq
  | goto l => exact hq
  | ret => exact hq
  | panic ch => exact hq
  | outgrown => exact hq

/-- what code does, wherever it is carried out -/
def CodeOK (P : Program) (r : Option Nat) (c : Code) (a : AAct) (H : AH) (x : AX) (a' : AAct) (H' : AH) : Prop :=
  ∀ ρ W ca rc n, Rel ρ H W → AR ρ a ca → RR ρ r rc → c.wpIn (WF rc) n P (CodePost ρ H W x a' H') ca W

/-- the rounds of a loop -/
inductive Rounds (P : Program) (r : Option Nat) (c : Code) (x : AX) (a' : AAct) (H' : AH) : Nat → AAct → AH → Prop
  | stop {a : AAct} {H : AH} : x ≠ .normal → CodeOK P r c a H x a' H' → Rounds P r c x a' H' 0 a H
  | more {a a1 : AAct} {H H1 : AH} {k : Nat} : CodeOK P r c a H .normal a1 H1 → Rounds P r c x a' H' k a1 H1 → Rounds P r c x a' H' (k + 1) a H

theorem Rounds.ok {r : Option Nat} {c : Code} {x : AX} {a' : AAct} {H' : AH} {k : Nat} {a : AAct} {H : AH} (h : Rounds P r c x a' H' k a H) : CodeOK P r (.loop c) a H x a' H' := by
  intro ρ W ca rc n hR hA hr
  refine loop_wp (K := fun k ca1 W1 => ∃ a1 H1 ρ1, Rounds P r c x a' H' k a1 H1 ∧ St ρ H W ρ1 H1 W1 ∧ AR ρ1 a1 ca1) ?_ (k := k) ⟨a, H, ρ, h, St.refl hR, hA⟩
  rintro k1 ca1 W1 ⟨a1, H1, ρ1, hr1, st1, ar1⟩
  cases hr1 with
  | stop hx hc =>
    refine wpIn_mono (hc ρ1 W1 ca1 rc n st1.rel ar1 (hr.mono st1.le)) (fun e ca2 W2 hp => ?_)
    obtain ⟨rfl, ρ2, st2, ar2⟩ := hp
    cases x with
    | normal => exact absurd rfl hx
    | exit id => exact ⟨rfl, ρ2, st1.trans st2, ar2⟩
    | goto l => exact ⟨rfl, ρ2, st1.trans st2, ar2⟩
    | ret => exact ⟨rfl, ρ2, st1.trans st2, ar2⟩
  | more hc hrest =>
    refine wpIn_mono (hc ρ1 W1 ca1 rc n st1.rel ar1 (hr.mono st1.le)) (fun e ca2 W2 hp => ?_)
    obtain ⟨rfl, ρ2, st2, ar2⟩ := hp
    exact ⟨_, Nat.lt_succ_self _, _, _, ρ2, hrest, st1.trans st2, ar2⟩

end
end Go.Eng
