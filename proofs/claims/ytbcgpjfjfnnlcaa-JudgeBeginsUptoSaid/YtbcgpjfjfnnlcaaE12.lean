/-
  Operations of the abstract machine go along with those of the model: all of them but calls of functions.
-/
import Derived.Test.YtbcgpjfjfnnlcaaE9
set_option linter.unusedSimpArgs false
namespace Go.Eng
noncomputable section
variable {P : Program}

section
variable {a : AAct} {ca : Act} {ρ : Ren} {H H' : AH} {W : World} {v : Value} {rec : Rec} {d : Option Tmp} {ty : TypeId} {ps : String} {af : Array Edge} {gu : Option (Nat × Bool)}

theorem len_sim {t : TypeId} {x x' : Value} (h : aLen P t x = .ok v) (hx : VR ρ x x') {argTypes : Array TypeId} (h0 : argTypes[0]? = some t) (w : World) :
    (Builtin.len_ argTypes ty #[x']).run P w = .ok v w ∧ VR ρ v v := by
  unfold aLen at h
  split at h
  · rename_i s hu
    cases h
    rw [hx.string_inv]
    refine ⟨?_, .int _ _⟩
    simp [Builtin.len_, h0, run_underlying' hu, Result.andThen, goInt]
  · rename_i e b n c hu
    cases h
    refine ⟨?_, .int _ _⟩
    cases hx with
    | sliceNil => simp [Builtin.len_, h0, run_underlying' hu, Result.andThen, goInt]
    | slice hp hc => simp [Builtin.len_, h0, run_underlying' hu, Result.andThen, goInt]
    | sliceEnd => simp [Builtin.len_, h0, run_underlying' hu, Result.andThen, goInt]
  · rename_i n e hu
    cases h
    refine ⟨?_, .int _ _⟩
    cases x' <;> simp [Builtin.len_, h0, run_underlying' hu, Result.andThen, goInt]
  · cases h

theorem copy_sim {t elem size : TypeId} {dv dv' x x' : Value} {new : List Value} {m : Nat} (h : Rel ρ H W) (hu : P.underlying t = some (.slice elem)) (hs : tSize P elem = .ok size) (ha : appended P H elem false x = .ok (new, m))
    (hd : VR ρ dv dv') (hx : VR ρ x x') {argTypes : Array TypeId} (h0 : argTypes[0]? = some t)
    (hc : (match dv with
            | .slice none 0 0 => .ok (.int .i64 0, H)
            | .slice (some ⟨id, off, none⟩) n _ =>
              if min m n = 0 then .ok (.int .i64 0, H) else do
              .ok (.int .i64 ((min m n : Nat) : Int), ← H.write id off (new.take (min m n * size)))
            | _ => .error 88 : R (Value × AH)) = .ok (v, H')) :
    ∃ ρ' W' v', (Builtin.copy_ argTypes ty #[dv', x']).run P W = .ok v' W' ∧ St ρ H W ρ' H' W' ∧ VR ρ' v v' := by
  obtain ⟨new', hl, hlen, hall⟩ := appended_sim (W := W) h ha hs hx
  obtain ⟨hn, hf⟩ := (hall W rfl).2 rfl
  have run : ∀ (base : Option Addr) (n c : Nat) (W' : World), (∀ a, base = some a → (storeCells a (new'.take (min m n * size))).run P W = .ok () W') → (base = none → W' = W) →
      (Builtin.copy_ argTypes ty #[.slice base n c, x']).run P W = .ok (.int .i64 (min m n : Nat)) W' := fun base n c W' h1 h2 => by
    have hfk := hf (min m n) (Nat.min_le_left _ _)
    unfold Builtin.copy_
    simp only [h0, List.getElem?_toArray, List.getElem?_cons_zero, List.getElem?_cons_succ, Sem.run_bind, run_underlying' hu, Result.andThen, hn, run_sizeOf' hs, Nat.min_def] at hfk ⊢
    rw [hfk]
    simp only [List.toList_toArray, Nat.min_def] at h1 ⊢
    cases base with
    | none => rw [h2 rfl]; rfl
    | some a => simp only [Sem.run_bind, h1 a rfl, Result.andThen, Sem.run_pure]; rfl
  split at hc
  · cases hc
    cases hd with
    | sliceNil =>
      have := run none 0 0 W (fun a e => by cases e) (fun _ => rfl)
      exact ⟨ρ, W, _, this, St.refl h, by simp; exact .int _ _⟩
  · rename_i id off n c
    split at hc
    · rename_i hk
      cases hc
      have st0 : ∀ a, (storeCells a (new'.take (min m n * size))).run P W = .ok () W := fun a => by rw [hk]; simp [storeCells]
      cases hd with
      | slice hp hcc => exact ⟨ρ, W, _, run _ _ _ W (fun a _ => st0 a) (fun e => by cases e), St.refl h, by rw [hk]; exact .int _ _⟩
      | sliceEnd => exact ⟨ρ, W, _, run _ _ _ W (fun a _ => st0 a) (fun e => by cases e), St.refl h, by rw [hk]; exact .int _ _⟩
    · rename_i hk
      obtain ⟨H1, hw, hc2⟩ := bok hc
      cases hc2
      cases hd with
      | slice hp hcc =>
        obtain ⟨W', w1, w2⟩ := St.write (P := P) h hw hp (hl.take _)
        refine ⟨ρ, W', _, run _ _ _ W' (fun a e => by cases e; exact w1) (fun e => by cases e), w2, ?_⟩
        exact .int _ _
      | sliceEnd => simp at hk
  · cases hc

theorem exec_builtin {b : Builtin} {args : Array Operand} {ats : Array TypeId} {v' : Value} {W' : World} (h : (builtin b ats ty (args.map fun | .const _ => true | _ => false) (args.map ca.eval)).run P W = .ok (.value v') W') :
    (execOp ca.eval ⟨d, .call ⟨.builtin b, args, ats⟩, ty, ps, af, gu⟩).run P W = .ok (.value v') W' := by
  simp only [execOp, resolve, Sem.run_bind, Sem.run_pure, Result.andThen, invoke]
  exact h

theorem args2 {args : Array Operand} {s x : Value} (h : allR a.eval args.toList = .ok [s, x]) (hE : ∀ y ∈ args.toList, OpE a ca ρ y) : ∃ s' x', args.map ca.eval = #[s', x'] ∧ VR ρ s s' ∧ VR ρ x x' := by
  have hl := allR_eval h hE
  obtain ⟨s', m1, e1, v1, l1⟩ := hl.cons_inv
  obtain ⟨x', m2, e2, v2, l2⟩ := l1.cons_inv
  have := l2.nil_inv
  subst this; subst e2
  refine ⟨s', x', ?_, v1, v2⟩
  apply Array.ext'
  rw [Array.toList_map, e1]

theorem args1 {args : Array Operand} {x : Value} (h : allR a.eval args.toList = .ok [x]) (hE : ∀ y ∈ args.toList, OpE a ca ρ y) : ∃ x', args.map ca.eval = #[x'] ∧ VR ρ x x' := by
  have hl := allR_eval h hE
  obtain ⟨x', m2, e2, v2, l2⟩ := hl.cons_inv
  have := l2.nil_inv
  subst this
  refine ⟨x', ?_, v2⟩
  apply Array.ext'
  rw [Array.toList_map, e2]

theorem ats0 {ats : Array TypeId} {t : TypeId} {l : List TypeId} (h : ats.toList = t :: l) : ats[0]? = some t := by
  rw [← Array.getElem?_toList, h]; rfl

theorem sim_builtin {b : Builtin} {args : Array Operand} {ats : Array TypeId} (h : Rel ρ H W) (hE : ∀ y ∈ args.toList, OpE a ca ρ y) (ho : aOp P rec a H ⟨d, .call ⟨.builtin b, args, ats⟩, ty, ps, af, gu⟩ = .ok (v, H')) :
    Sim1 P ⟨d, .call ⟨.builtin b, args, ats⟩, ty, ps, af, gu⟩ ρ H W ca v H' := by
  simp only [aOp] at ho
  obtain ⟨vs, h1, ho1⟩ := bok ho
  clear ho
  split at ho1
  · -- len
    rename_i x
    split at ho1
    · rename_i t l ht
      obtain ⟨u, h2, h3⟩ := bok ho1
      cases h3
      obtain ⟨x', e, hx⟩ := args1 h1 hE
      obtain ⟨k1, k2⟩ := len_sim (ty := ty) h2 hx (ats0 ht) W
      refine .same h (v' := v) (exec_builtin ?_) k2
      rw [e]
      simp only [builtin, Sem.run_bind, k1, Result.andThen, Sem.run_pure]
    · cases ho1
  · cases ho1
  · -- append
    rename_i s x
    obtain ⟨s', x', e, hs, hx⟩ := args2 h1 hE
    have fin : ∀ (t : TypeId) (u : Option TypeId), ats[0]? = some t → ats[1]? = u → aAppend P H t u s x = .ok (v, H') → Sim1 P ⟨d, .call ⟨.builtin .append, args, ats⟩, ty, ps, af, gu⟩ ρ H W ca v H' := fun t u e0 e1 ha => by
      obtain ⟨ρ', W', v', k1, k2, k3⟩ := append_sim (ty := ty) h ha hs hx e0 e1
      refine ⟨ρ', W', v', .inl (exec_builtin ?_), k2, k3⟩
      rw [e]
      simp only [builtin, Sem.run_bind, k1, Result.andThen, Sem.run_pure]
    split at ho1
    · rename_i t ht
      exact fin t none (ats0 ht) (by rw [← Array.getElem?_toList, ht]; rfl) ho1
    · rename_i t u l ht
      exact fin t (some u) (ats0 ht) (by rw [← Array.getElem?_toList, ht]; rfl) ho1
    · cases ho1
  · -- copy
    rename_i dv x
    obtain ⟨dv', x', e, hd, hx⟩ := args2 h1 hE
    split at ho1
    · rename_i t l ht
      split at ho1
      · rename_i elem hu
        obtain ⟨size, h2, ho2⟩ := bok ho1
        clear ho1
        obtain ⟨⟨new, m⟩, h3, ho3⟩ := bok ho2
        clear ho2
        obtain ⟨ρ', W', v', k1, k2, k3⟩ := copy_sim (ty := ty) h hu h2 h3 hd hx (ats0 ht) ho3
        refine ⟨ρ', W', v', .inl (exec_builtin ?_), k2, k3⟩
        rw [e]
        simp only [builtin, Sem.run_bind, k1, Result.andThen, Sem.run_pure]
      · cases ho1
    · cases ho1
  · -- max
    split at ho1
    · rename_i hg
      obtain ⟨u, h2, h3⟩ := bok ho1
      cases h3
      obtain ⟨g1, g2⟩ := gOnly_ok h2
      have hl := allR_eval h1 hE
      have e : args.map ca.eval = vs.toArray := by
        apply Array.ext'
        rw [Array.toList_map]
        apply List.ext_getElem?
        intro i
        cases hi : vs[i]? with
        | none =>
          have : vs.length ≤ i := List.getElem?_eq_none_iff.1 hi
          rw [List.getElem?_eq_none (by rw [← hl.1]; exact this)]
        | some u =>
          obtain ⟨u', q1, q2⟩ := hl.get hi
          rw [q1, gnd_eq _ (List.all_eq_true.1 hg u (List.mem_of_getElem? hi)) q2]
      refine .same h (v' := v) (exec_builtin ?_) (gnd_refl _ g2)
      rw [e]
      have := pureRun_ok _ g1 W
      simp only [builtin, Sem.run_bind, Result.andThen, Sem.run_pure]
      have e2 : (Builtin.max_ ats ty vs.toArray) = Builtin.max_ #[] 0 vs.toArray := rfl
      rw [e2, this]
    · cases ho1
  · -- min
    split at ho1
    · rename_i hg
      obtain ⟨u, h2, h3⟩ := bok ho1
      cases h3
      obtain ⟨g1, g2⟩ := gOnly_ok h2
      have hl := allR_eval h1 hE
      have e : args.map ca.eval = vs.toArray := by
        apply Array.ext'
        rw [Array.toList_map]
        apply List.ext_getElem?
        intro i
        cases hi : vs[i]? with
        | none =>
          have : vs.length ≤ i := List.getElem?_eq_none_iff.1 hi
          rw [List.getElem?_eq_none (by rw [← hl.1]; exact this)]
        | some u =>
          obtain ⟨u', q1, q2⟩ := hl.get hi
          rw [q1, gnd_eq _ (List.all_eq_true.1 hg u (List.mem_of_getElem? hi)) q2]
      refine .same h (v' := v) (exec_builtin ?_) (gnd_refl _ g2)
      rw [e]
      have := pureRun_ok _ g1 W
      simp only [builtin, Sem.run_bind, Result.andThen, Sem.run_pure]
      have e2 : (Builtin.min_ ats ty vs.toArray) = Builtin.min_ #[] 0 vs.toArray := rfl
      rw [e2, this]
    · cases ho1
  · cases ho1

/-- is it a call of a function value? -/
def isCallV : Op → Bool
  | .call ⟨.value _, _, _⟩ => true
  | .call ⟨.invoke _ _, _, _⟩ => true
  | _ => false

theorem op_val {o : Oper} (h : Rel ρ H W) (hE : ∀ x ∈ o.op.operands, OpE a ca ρ x) (hn : isCallV o.op = false) (ho : aOp P rec a H o = .ok (v, H')) : Sim1 P o ρ H W ca v H' := by
  obtain ⟨d, op, ty, ps, af, gu⟩ := o
  simp only at hE hn
  cases op with
  | move x => exact sim_move h (hE x (by simp [Op.operands])) ho
  | assign x => exact sim_assign h (hE x (by simp [Op.operands])) ho
  | pick c x y => exact sim_pick h (hE c (by simp [Op.operands])) (hE x (by simp [Op.operands])) (hE y (by simp [Op.operands])) ho
  | alloc t => exact sim_alloc h ho
  | box t x => exact sim_box h (hE x (by simp [Op.operands])) ho
  | build t parts => exact sim_build h (fun p hp => hE p.2 (by simp only [Op.operands, List.mem_toArray, List.mem_map]; exact ⟨p, hp, rfl⟩)) ho
  | buildSlice t n parts => exact sim_buildSlice h (fun p hp => hE p.2 (by simp only [Op.operands, List.mem_toArray, List.mem_map]; exact ⟨p, hp, rfl⟩)) ho
  | load t x => exact sim_load h (hE x (by simp [Op.operands])) ho
  | store t x y => exact sim_store h (hE x (by simp [Op.operands])) (hE y (by simp [Op.operands])) ho
  | nilCheck x => exact sim_nilCheck h (hE x (by simp [Op.operands])) ho
  | binOp op t x y t2 => exact sim_binOp h (hE x (by simp [Op.operands])) (hE y (by simp [Op.operands])) ho
  | unOp op t x => exact sim_unOp h (hE x (by simp [Op.operands])) ho
  | convert s t x => exact sim_convert h (hE x (by simp [Op.operands])) ho
  | makeInterface t x => exact sim_makeInterface h (hE x (by simp [Op.operands])) ho
  | makeFunc fn first cap => exact sim_makeFunc h (fun x hx => hE x (by simp [Op.operands]; exact .inl (by simpa using hx))) (fun x hx => hE x (by simp [Op.operands]; exact .inr (by simpa using hx))) ho
  | makeSlice t l c => exact sim_makeSlice h (hE l (by simp [Op.operands])) (hE c (by simp [Op.operands])) ho
  | slice t x lo hi mx => exact sim_slice h (hE x (by simp [Op.operands])) (fun y hy => hE y (by subst hy; simp [Op.operands])) (fun y hy => hE y (by subst hy; simp [Op.operands])) (fun y hy => hE y (by subst hy; simp [Op.operands])) ho
  | fieldAddr t x f => exact sim_fieldAddr h (hE x (by simp [Op.operands])) ho
  | field t x f => exact sim_field h (hE x (by simp [Op.operands])) ho
  | indexAddr t x i => exact sim_indexAddr h (hE x (by simp [Op.operands])) (hE i (by simp [Op.operands])) ho
  | index t x i => exact sim_index h (hE x (by simp [Op.operands])) (hE i (by simp [Op.operands])) ho
  | extract x i => exact sim_extract h (hE x (by simp [Op.operands])) ho
  | makeMap t x => exact sim_makeMap h (fun y hy => hE y (by subst hy; simp [Op.operands])) ho
  | lookup t x i ok => exact sim_lookup h (hE x (by simp [Op.operands])) (hE i (by simp [Op.operands])) ho
  | mapUpdate t m k x => exact sim_mapUpdate h (hE m (by simp [Op.operands])) (hE k (by simp [Op.operands])) (hE x (by simp [Op.operands])) ho
  | typeAssert x xt t ok => exact sim_typeAssert h (hE x (by simp [Op.operands])) ho
  | range t x => exact sim_range h (hE x (by simp [Op.operands])) ho
  | next x b => exact sim_next h (hE x (by simp [Op.operands])) ho
  | call c =>
    obtain ⟨cal, args, ats⟩ := c
    cases cal with
    | value f => simp [isCallV] at hn
    | invoke r m => simp [isCallV] at hn
    | builtin b => exact sim_builtin h (fun y hy => hE y (by simp [Op.operands, Call.operands]; simpa using hy)) ho
  | _ => first | (simp [aOp] at ho; done) | (simp only [aOp] at ho; cases ho)

end
end
end Go.Eng
/-
  Calls of functions, rounds of loops over functions: the abstract machine goes along with the model.
-/
namespace Go.Eng
noncomputable section
variable {P : Program}

/-- the fence that lets all in, in a round or not -/
def WF (r : Option Nat) : Fence := { Fence.wide with round := r }

/-- a deferred call, or a mark among them -/
def DefR (ρ : Ren) : ADef → Deferred → Prop
  | .mark m, d => ∃ pl, ρ m = some pl ∧ d = { target := .collected pl.blk, args := #[] }
  | .call f l, d => ∃ cap args, d = { target := .fn (.func f) cap, args := args } ∧ LR ρ l (args.toList ++ cap.toList)

def MR (ρ : Ren) (ms : List ADef) (ds : List Deferred) : Prop := ms.length = ds.length ∧ ∀ (i : Nat) (m : ADef) (d : Deferred), ms[i]? = some m → ds[i]? = some d → DefR ρ m d

structure AR (ρ : Ren) (a : AAct) (ca : Act) : Prop where
  tm : TR ρ a.tm a.n ca.tmps
  marks : MR ρ a.marks ca.defers

def RR (ρ : Ren) (r rc : Option Nat) : Prop := match r, rc with
  | none, none => True
  | some l, some b => ∃ pl, ρ l = some pl ∧ pl.blk = b
  | _, _ => False

def convX : AX → Exit
  | .normal => .normal
  | .exit id => .exit id
  | .goto l => .goto l
  | .ret => .ret

def CallPost (ρ : Ren) (H : AH) (W : World) (v : Value) (H' : AH) (e : Ending) (W' : World) : Prop := ∃ ρ' v', e = .returned v' ∧ St ρ H W ρ' H' W' ∧ VR ρ' v v'

def CodePost (ρ : Ren) (H : AH) (W : World) (x : AX) (a' : AAct) (H' : AH) (x' : Exit) (ca' : Act) (W' : World) : Prop := x' = convX x ∧ ∃ ρ', St ρ H W ρ' H' W' ∧ AR ρ' a' ca'

structure RecOK (P : Program) (rec : Rec) : Prop where
  call : ∀ f args H v H', rec (.call f args) H = .ok (.val v, H') → (∃ fn c, P.funcs[f]? = some fn ∧ fn.body = some c ∧ (fn.name == "runtime.NumGoroutine") = false) ∧
    ∀ ρ W args' n, Rel ρ H W → LR ρ args args' → CallsIn (WF none) n P f args'.toArray W (CallPost ρ H W v H')
  code : ∀ r c a H x a' H', rec (.code r c a) H = .ok (.out x a', H') → ∀ ρ W ca rc n, Rel ρ H W → AR ρ a ca → RR ρ r rc → c.wpIn (WF rc) n P (CodePost ρ H W x a' H') ca W
  callVal : ∀ f args H x a H', rec (.call f args) H ≠ .ok (.out x a, H')
  codeOut : ∀ r c a H v H', rec (.code r c a) H ≠ .ok (.val v, H')

theorem DefR.mono {ρ ρ' : Ren} (h : ρ.le ρ') {m : ADef} {d : Deferred} (hm : DefR ρ m d) : DefR ρ' m d := by
  cases m with
  | mark m => obtain ⟨pl, p, q⟩ := hm; exact ⟨pl, h _ _ p, q⟩
  | call f l => obtain ⟨cap, args, e, hl⟩ := hm; exact ⟨cap, args, e, hl.mono h⟩
theorem MR.mono {ρ ρ' : Ren} (h : ρ.le ρ') {ms : List ADef} {ds : List Deferred} (hm : MR ρ ms ds) : MR ρ' ms ds :=
  ⟨hm.1, fun i m d a b => (hm.2 i m d a b).mono h⟩
theorem MR.cons {ρ : Ren} {ms : List ADef} {ds : List Deferred} (h : MR ρ ms ds) {m : ADef} {d : Deferred} (hp : DefR ρ m d) : MR ρ (m :: ms) (d :: ds) := by
  refine ⟨by simp [h.1], fun i m' d' h1 h2 => ?_⟩
  cases i with
  | zero => simp at h1 h2; subst h1; subst h2; exact hp
  | succ i => exact h.2 i m' d' (by simpa using h1) (by simpa using h2)
theorem AR.mono {ρ ρ' : Ren} (h : ρ.le ρ') {a : AAct} {ca : Act} (ha : AR ρ a ca) : AR ρ' a ca := ⟨ha.tm.mono h, ha.marks.mono h⟩
theorem RR.mono {ρ ρ' : Ren} (h : ρ.le ρ') {r rc : Option Nat} (hr : RR ρ r rc) : RR ρ' r rc := by
  cases r <;> cases rc <;> first | exact hr | skip
  obtain ⟨pl, a, b⟩ := hr
  exact ⟨pl, h _ _ a, b⟩

theorem AR.eval {ρ : Ren} {a : AAct} {ca : Act} (h : AR ρ a ca) (x : Operand) : OpE a ca ρ x := fun u hu => by
  cases x with
  | tmp t => simp only [AAct.eval] at hu; cases hu; exact h.tm.2 t
  | const v =>
    simp only [AAct.eval] at hu
    split at hu
    · cases hu; exact gnd_refl _ (by assumption)
    · cases hu
  | global g => simp [AAct.eval] at hu
  | func f =>
    simp only [AAct.eval] at hu
    cases hu
    exact .func rfl (by intro i v v' h; simp at h) rfl (by intro i v v' h; simp at h)

theorem TR.put {ρ : Ren} {tm : T Value} {n : Nat} {tmps : Array Value} (h : TR ρ tm n tmps) {d : Nat} (hd : d < n) (hn : n < 281474976710655) {v v' : Value} (hv : VR ρ v v') : TR ρ (T.put AH.top tm d v) n (tmps.setIfInBounds d v') := by
  refine ⟨by simp [h.1], fun t => ?_⟩
  rw [show (T.put AH.top tm d v).get t = if t = d then some v else tm.get t from T.get_put 48 _ _ _ _ (by have : 2 ^ 48 = 281474976710656 := rfl; omega)]
  have hsz := h.1
  by_cases e : t = d
  · subst e
    have : (tmps.setIfInBounds t v').getD t Go.undef = v' := by
      simp [Array.getD_eq_getD_getElem?, hsz, hd]
    rw [this]
    simpa using hv
  · rw [if_neg e]
    have : (tmps.setIfInBounds d v').getD t Go.undef = tmps.getD t Go.undef := by
      simp only [Array.getD_eq_getD_getElem?]
      rw [Array.getElem?_setIfInBounds_ne (fun h => e h.symm)]
    rw [this]
    exact h.2 t

theorem AR.put {ρ : Ren} {a a' : AAct} {ca : Act} (h : AR ρ a ca) {d : Option Tmp} {v v' : Value} (hp : a.put d v = .ok a') (hv : VR ρ v v') : AR ρ a' (ca.put d v') := by
  rw [AAct.put_eq] at hp
  cases d with
  | none => cases hp; exact h
  | some d =>
    simp only at hp
    split at hp
    · rename_i hd
      cases hp
      exact ⟨h.tm.put hd.1 hd.2 hv, h.marks⟩
    · cases hp

theorem put_n {a a' : AAct} {d : Option Tmp} {v : Value} (hp : a.put d v = .ok a') : a'.n = a.n ∧ a'.marks = a.marks := by
  rw [AAct.put_eq] at hp
  cases d with
  | none => cases hp; exact ⟨rfl, rfl⟩
  | some d =>
    simp only at hp
    split at hp
    · cases hp; exact ⟨rfl, rfl⟩
    · cases hp

/-- what a loop's record is -/
theorem loop_at {ρ : Ren} {H : AH} {W : World} (h : Rel ρ H W) {l : Nat} {r : ALoop} {pl : Pl} (hl : H.get l = some (.loop r)) (hp : ρ l = some pl) :
    ∃ fn tmps pm, W.heap[pl.blk]? = some (.loop { state := r.state, pending := r.pending, fn := fn, tmps := tmps, params := r.params.toArray, assign := r.assign, body := r.body, defers := pm.blk }) ∧ TR ρ r.tm r.n tmps ∧ ρ r.mark = some pm := by
  obtain ⟨p0, hp0, _, hor⟩ := h.obj l _ hl
  rw [hp] at hp0; cases hp0
  exact hor

theorem run_getLoop' {W : World} {b : Nat} {r : Loop} (h : W.heap[b]? = some (.loop r)) : (Instr.getLoop b).run P W = .ok r W := by
  unfold Instr.getLoop
  simp only [Sem.run_bind, run_getObj' h (by intro c t f e; cases e), Result.andThen, Sem.run_pure]

/-- a loop's record is turned: its state and its pending jump -/
theorem St.setLoop {ρ : Ren} {H : AH} {W : World} (h : Rel ρ H W) {l : Nat} {r r' : ALoop} {pl : Pl} (hl : H.get l = some (.loop r)) (hp : ρ l = some pl) {fn : FuncId} {tmps : Array Value} {pm : Pl}
    (h1 : TR ρ r'.tm r'.n tmps) (h2 : ρ r'.mark = some pm) :
    St ρ H W ρ (H.set l (.loop r')) { W with heap := W.heap.setIfInBounds pl.blk (.loop { state := r'.state, pending := r'.pending, fn := fn, tmps := tmps, params := r'.params.toArray, assign := r'.assign, body := r'.body, defers := pm.blk }) } := by
  obtain ⟨p0, hp0, hblt, _⟩ := h.obj l _ hl
  rw [hp] at hp0; cases hp0
  refine St.setObj h hl rfl hp _ ⟨fn, tmps, pm, ?_, h1, h2⟩
  simp [hblt]

theorem about_any (F : Fence) (hF : ∀ f, F.fn f) (o : Oper) (w : World) (ev : Operand → Value) : ∀ f, o.about P w ev = some f → F.fn f := fun f _ => hF f

theorem exec_value {cf : Operand} {args : Array Operand} {ats : Array TypeId} {ca : Act} {W : World} {d : Option Tmp} {ty : TypeId} {ps : String} {af : Array Edge} {gu : Option (Nat × Bool)} {g : FuncId} {first cap : Array Value} {fn : Func} {c : Code}
    (hf : ca.eval cf = .func (.func g) first cap) (h1 : P.funcs[g]? = some fn) (h2 : fn.body = some c) (h3 : (fn.name == "runtime.NumGoroutine") = false) :
    (execOp ca.eval ⟨d, .call ⟨.value cf, args, ats⟩, ty, ps, af, gu⟩).run P W = .ok (.enter g (first.toList ++ args.toList.map ca.eval ++ cap.toList).toArray) W := by
  have e : first ++ args.map ca.eval ++ cap = (first.toList ++ args.toList.map ca.eval ++ cap.toList).toArray := by
    apply Array.ext'; simp
  simp only [execOp, resolve, hf, Deferred.ofValue, Sem.run_bind, Sem.run_pure, Result.andThen, invoke, callFunc, run_program, h1, h3, h2, Bool.false_eq_true, if_false, Option.isNone_some, e]

theorem exec_invoke {rcv : Operand} {name : String} {args : Array Operand} {ats : Array TypeId} {ca : Act} {W : World} {d : Option Tmp} {ty : TypeId} {ps : String} {af : Array Edge} {gu : Option (Nat × Bool)} {t : TypeId} {v : Value} {g : FuncId} {fn : Func} {c : Code}
    (hf : ca.eval rcv = .iface t v) (hm : aMethod P t name = .ok g) (h1 : P.funcs[g]? = some fn) (h2 : fn.body = some c) (h3 : (fn.name == "runtime.NumGoroutine") = false) :
    (execOp ca.eval ⟨d, .call ⟨.invoke rcv name, args, ats⟩, ty, ps, af, gu⟩).run P W = .ok (.enter g (v :: args.toList.map ca.eval).toArray) W := by
  have e : #[v] ++ (#[Value.iface t v] ++ args.map ca.eval).extract 1 (#[Value.iface t v] ++ args.map ca.eval).size = (v :: args.toList.map ca.eval).toArray := by
    apply Array.ext'
    simp
    exact List.take_of_length_le (by simp)
  have e0 : (#[Value.iface t v] ++ args.map ca.eval)[0]? = some (.iface t v) := by
    rw [Array.getElem?_append_left (by simp)]
    rfl
  obtain ⟨k, hk⟩ : ∃ k, P.types.size + Made.depth = k + 1 := by
    have h1 : 1 ≤ Made.depth := by decide
    exact ⟨P.types.size + (Made.depth - 1), by omega⟩
  simp only [execOp, resolve, hf, Sem.run_bind, Sem.run_pure, Result.andThen, invoke, e0, callMethod, run_program, hk, run_method' hm, callFunc, h1, h3, h2, Bool.false_eq_true, if_false, Option.isNone_some, e]

theorem exec_yield {cf : Operand} {args : Array Operand} {ats : Array TypeId} {ca : Act} {W : World} {d : Option Tmp} {ty : TypeId} {ps : String} {af : Array Edge} {gu : Option (Nat × Bool)} {b : Nat} {r : Loop}
    (hf : ca.eval cf = .func (.yield b) #[] #[]) (h1 : W.heap[b]? = some (.loop r)) (h2 : args.size = r.params.size) :
    (execOp ca.eval ⟨d, .call ⟨.value cf, args, ats⟩, ty, ps, af, gu⟩).run P W = .ok (.round b r.fn ((r.params.zip (args.map ca.eval)).foldl (fun tmps (p : Tmp × Value) => tmps.setIfInBounds p.1 p.2) r.tmps) r.assign r.body) W := by
  have e : (#[] : Array Value) ++ args.map ca.eval = args.map ca.eval := by simp
  simp only [execOp, resolve, hf, Deferred.ofValue, Sem.run_bind, Sem.run_pure, Result.andThen, invoke, e, Instr.yield, run_getLoop' h1, Array.size_map, h2, ne_eq, not_true_eq_false, if_false]

theorem params_fold {ρ : Ren} : ∀ (ps : List Tmp) (vs vs' : List Value) (b b' : AAct) (tmps : Array Value), (ps.zip vs).foldlM (fun (b : AAct) (p : Tmp × Value) => b.put (some p.1) p.2) b = (.ok b' : R AAct) → LR ρ vs vs' → TR ρ b.tm b.n tmps →
    TR ρ b'.tm b'.n ((ps.zip vs').foldl (fun tmps (p : Tmp × Value) => tmps.setIfInBounds p.1 p.2) tmps) ∧ b'.n = b.n ∧ b'.marks = b.marks
  | [], vs, vs', b, b', tmps, h, _, ht => by
    simp only [List.zip_nil_left, List.foldlM_nil] at h
    cases h
    exact ⟨by simpa using ht, rfl, rfl⟩
  | p :: ps, [], vs', b, b', tmps, h, hl, ht => by
    rw [hl.nil_inv]
    simp only [List.zip_nil_right, List.foldlM_nil] at h
    cases h
    exact ⟨by simpa using ht, rfl, rfl⟩
  | p :: ps, v :: vs, vs', b, b', tmps, h, hl, ht => by
    obtain ⟨v', m', rfl, hv, hm⟩ := hl.cons_inv
    simp only [List.zip_cons_cons, List.foldlM_cons] at h
    obtain ⟨b1, h1, h2⟩ := bok h
    obtain ⟨n1, n2⟩ := put_n h1
    have h1c := h1
    rw [AAct.put_eq] at h1
    simp only at h1
    split at h1
    · rename_i hd
      cases h1
      have ht1 : TR ρ (T.put AH.top b.tm p v) b.n (tmps.setIfInBounds p v') := ht.put hd.1 hd.2 hv
      obtain ⟨q1, q2, q3⟩ := params_fold ps vs m' _ b' _ h2 hm ht1
      exact ⟨by simpa using q1, q2, q3⟩
    · cases h1

theorem round_sim {rec : Rec} (hrec : RecOK P rec) {ρ : Ren} {H H1 H2 : AH} {W : World} (h : Rel ρ H W) {l : Nat} {r r1 r2 : ALoop} {pl : Pl} (hp : ρ l = some pl) {act act1 a2 : AAct} {x : AX} {tmps : Array Value}
    (har : AR ρ act { tmps := tmps, defers := [] }) (h4 : rec (.code (some l) r.assign act) H = .ok (.out .normal act1, H1)) (hlr1 : H1.get l = some (.loop r1)) (hs1 : r1.state = .ready)
    (h5 : rec (.code (some l) r.body act1) (H1.set l (.loop { r1 with state := .busy })) = .ok (.out x a2, H2)) (hlr2 : H2.get l = some (.loop r2)) (fn : FuncId) (rc : Option Nat) (n : Nat) {R : Ending → World → Prop}
    (hR : ∀ ρ' W', St ρ H W ρ' (H2.set l (.loop { r2 with state := if (jumpOf x).isNone then .ready else .done, pending := jumpOf x })) W' → R (.returned (.bool (jumpOf x).isNone)) W') :
    RoundIn (WF rc) n P pl.blk fn tmps r.assign r.body W R := by
  refine roundIn_of_wpIn (F := WF rc) trivial ?_
  refine wpIn_mono (hrec.code (some l) r.assign act H .normal act1 _ h4 ρ W _ (some pl.blk) n h har ⟨pl, hp, rfl⟩) (fun x' ca1 W1 hpost => ?_)
  obtain ⟨rfl, ρ1, st1, ar1⟩ := hpost
  have hp1 := st1.le _ _ hp
  obtain ⟨fn1, tmps1, pm1, u1, u2, u3⟩ := loop_at st1.rel hlr1 hp1
  have stb := St.setLoop (r' := { r1 with state := .busy }) st1.rel hlr1 hp1 (fn := fn1) (tmps := tmps1) (pm := pm1) u2 u3
  have hb : (Instr.beginRound pl.blk).run P W1 = .ok () { W1 with heap := W1.heap.setIfInBounds pl.blk (.loop { state := .busy, pending := r1.pending, fn := fn1, tmps := tmps1, params := r1.params.toArray, assign := r1.assign, body := r1.body, defers := pm1.blk }) } := by
    unfold Instr.beginRound
    simp only [Sem.run_bind, run_getLoop' u1, Result.andThen, run_setObj' u1 (by intro c t f e; cases e), hs1, Sem.run_pure]
  dsimp only at stb
  generalize ({ W1 with heap := W1.heap.setIfInBounds pl.blk (.loop { state := .busy, pending := r1.pending, fn := fn1, tmps := tmps1, params := r1.params.toArray, assign := r1.assign, body := r1.body, defers := pm1.blk }) } : World) = W1b at hb stb
  refine ⟨W1b, hb, ?_⟩
  have hbody := hrec.code (some l) r.body act1 _ x a2 H2 h5 ρ1 W1b ca1 (some pl.blk) n stb.rel ar1 ⟨pl, hp1, rfl⟩
  refine wpIn_mono hbody (fun x' ca2 W2 hpost => ?_)
  obtain ⟨rfl, ρ2, st2, ar2⟩ := hpost
  have hp2 := st2.le _ _ hp1
  obtain ⟨fn2, tmps2, pm2, q1, q2, q3⟩ := loop_at st2.rel hlr2 hp2
  have fin : ∃ v w', (Instr.endRound pl.blk (jumpOf x)).run P W2 = .ok v w' ∧ R (.returned v) w' := by
    have ste := St.setLoop (r' := { r2 with state := if (jumpOf x).isNone then .ready else .done, pending := jumpOf x }) st2.rel hlr2 hp2 (fn := fn2) (tmps := tmps2) (pm := pm2) q2 q3
    refine ⟨.bool (jumpOf x).isNone, _, ?_, hR ρ2 _ (((st1.trans stb).trans st2).trans ste)⟩
    unfold Instr.endRound
    simp only [Sem.run_bind, run_getLoop' q1, Result.andThen, run_setObj' q1 (by intro c t f e; cases e), Sem.run_pure]
  cases x with
  | normal => exact fin
  | ret => exact fin
  | exit id => exact fin
  | goto l => exact fin

theorem op_wp {a : AAct} {ca : Act} {ρ : Ren} {H H' : AH} {W : World} {v : Value} {rec : Rec} {o : Oper} (hrec : RecOK P rec) (h : Rel ρ H W) (hE : ∀ x ∈ o.op.operands, OpE a ca ρ x) (ho : aOp P rec a H o = .ok (v, H')) (rc : Option Nat) (n : Nat)
    {next : Act → World → Prop} {Q : Exit → Act → World → Prop} (hnext : ∀ ρ' W' v', St ρ H W ρ' H' W' → VR ρ' v v' → next (ca.put o.dst v') W') : o.wpIn (WF rc) n P ca W next Q := by
  refine ⟨about_any _ (fun f => trivial) o W ca.eval, ?_⟩
  have hnd : ∀ c, o.op ≠ .defer c := fun c e => by
    obtain ⟨d, op, ty, ps, af, gu⟩ := o
    simp only at e
    subst e
    simp [aOp] at ho
  rw [Oper.semAt_eq _ _ _ hnd]
  cases hcv : isCallV o.op with
  | false =>
    obtain ⟨ρ', W', v', hrun, hst, hvr⟩ := op_val h hE hcv ho
    rcases hrun with hrun | ⟨hrun, rfl⟩
    · rw [hrun]; exact hnext ρ' W' v' hst hvr
    · rw [hrun]; exact hnext ρ' W' _ hst hvr
  | true =>
    obtain ⟨d, op, ty, ps, af, gu⟩ := o
    cases op <;> simp only [isCallV] at hcv <;> first | (cases hcv; done) | skip
    rename_i c
    obtain ⟨cal, args, ats⟩ := c
    cases cal <;> simp only [isCallV] at hcv <;> first | (cases hcv; done) | skip
    case call.invoke rcv name =>
      simp only at hE hnext
      have hEf : OpE a ca ρ rcv := hE rcv (by simp [Op.operands, Call.operands])
      have hEa : ∀ y ∈ args.toList, OpE a ca ρ y := fun y hy => hE y (by simp [Op.operands, Call.operands]; exact .inr (by simpa using hy))
      simp only [aOp] at ho
      obtain ⟨vs, h1, ho1⟩ := bok ho
      clear ho
      obtain ⟨fv, h2, ho2⟩ := bok ho1
      clear ho1
      have hl := allR_eval h1 hEa
      have hfv := hEf _ h2
      obtain ⟨fv', hfe⟩ : ∃ fv', ca.eval rcv = fv' := ⟨_, rfl⟩
      rw [hfe] at hfv
      split at ho2
      · rename_i t u
        obtain ⟨g, h5, ho3⟩ := bok ho2
        clear ho2
        obtain ⟨⟨res, H1⟩, h3, ho4⟩ := bok ho3
        clear ho3
        cases res with
        | out x a' => exact absurd h3 (hrec.callVal _ _ _ _ _ _)
        | val w =>
          cases ho4
          obtain ⟨⟨fn, c, f1, f2, f3⟩, hcall⟩ := hrec.call _ _ _ _ _ h3
          cases hfv with
          | iface huv =>
            rename_i u'
            rw [exec_invoke hfe h5 f1 f2 f3, Oper.uponIn_enter]
            refine ⟨(fun hd => by cases hd), ?_⟩
            have := hcall ρ W _ (n - 1) h (hl.cons huv)
            refine CallsIn.mono (F := WF rc) this (fun e W' hp => ?_)
            obtain ⟨ρ', v', rfl, hst, hvr⟩ := hp
            exact hnext ρ' W' v' hst hvr
      · cases ho2
    rename_i cf
    simp only at hE hnext
    have hEf : OpE a ca ρ cf := hE cf (by simp [Op.operands, Call.operands])
    have hEa : ∀ y ∈ args.toList, OpE a ca ρ y := fun y hy => hE y (by simp [Op.operands, Call.operands]; exact .inr (by simpa using hy))
    simp only [aOp] at ho
    obtain ⟨vs, h1, ho1⟩ := bok ho
    clear ho
    obtain ⟨fv, h2, ho2⟩ := bok ho1
    clear ho1
    have hl := allR_eval h1 hEa
    have hfv := hEf _ h2
    obtain ⟨fv', hfe⟩ : ∃ fv', ca.eval cf = fv' := ⟨_, rfl⟩
    rw [hfe] at hfv
    split at ho2
    · rename_i g first cap
      obtain ⟨⟨res, H1⟩, h3, ho3⟩ := bok ho2
      clear ho2
      cases res with
      | out x a' => exact absurd h3 (hrec.callVal _ _ _ _ _ _)
      | val u =>
        cases ho3
        obtain ⟨⟨fn, c, f1, f2, f3⟩, hcall⟩ := hrec.call _ _ _ _ _ h3
        cases hfv with
        | func e1 e2 e3 e4 =>
          rename_i first' cap'
          rw [exec_value hfe f1 f2 f3, Oper.uponIn_enter]
          refine ⟨(fun hd => by cases hd), ?_⟩
          have hargs : LR ρ (first.toList ++ vs ++ cap.toList) (first'.toList ++ args.toList.map ca.eval ++ cap'.toList) := (LR.append (LR.append ⟨e1, e2⟩ hl) ⟨e3, e4⟩)
          have := hcall ρ W _ (n - 1) h hargs
          refine CallsIn.mono (F := WF rc) this (fun e W' hp => ?_)
          obtain ⟨ρ', v', rfl, hst, hvr⟩ := hp
          exact hnext ρ' W' v' hst hvr
    · rename_i l _ _
      split at ho2
      · rename_i r hlr
        split at ho2
        · cases ho2
        rename_i hlen
        split at ho2
        · rename_i hstate
          obtain ⟨act, h3, ho3⟩ := bok ho2
          clear ho2
          obtain ⟨⟨res, H1⟩, h4, ho4⟩ := bok ho3
          clear ho3
          split at ho4
          · rename_i act1 H1' hq1
            cases hq1
            split at ho4
            · rename_i r1 hlr1
              split at ho4
              · cases ho4
              rename_i hst1
              obtain ⟨⟨res2, H2⟩, h5, ho5⟩ := bok ho4
              clear ho4
              split at ho5
              · rename_i x a2 H2' hq2
                cases hq2
                split at ho5
                · rename_i r2 hlr2
                  cases ho5
                  cases hfv with
                  | yield hp =>
                    rename_i pl
                    obtain ⟨fn, tmps, pm, w1, w2, w3⟩ := loop_at h hlr hp
                    have hsz : args.size = r.params.toArray.size := by
                      have := hl.1
                      simp at this hlen ⊢
                      omega
                    rw [exec_yield hfe w1 hsz, Oper.uponIn_round]
                    refine ⟨(fun hd => by cases hd), ?_⟩
                    obtain ⟨t1, t2, t3⟩ := params_fold r.params vs (args.toList.map ca.eval) { tm := r.tm, n := r.n, marks := [] } act tmps h3 hl w2
                    have etm : (r.params.toArray.zip (args.map ca.eval)).foldl (fun tmps (p : Tmp × Value) => tmps.setIfInBounds p.1 p.2) tmps = (r.params.zip (args.toList.map ca.eval)).foldl (fun tmps (p : Tmp × Value) => tmps.setIfInBounds p.1 p.2) tmps := by
                      rw [← Array.foldl_toList, Array.toList_zip]
                      simp
                    simp only [etm]
                    have har : AR ρ act { tmps := (r.params.zip (args.toList.map ca.eval)).foldl (fun tmps (p : Tmp × Value) => tmps.setIfInBounds p.1 p.2) tmps, defers := [] } :=
                      ⟨t1, by rw [t3]; exact ⟨rfl, fun i m d hm => by simp at hm⟩⟩
                    have hs1 : r1.state = .ready := by simpa using hst1
                    exact round_sim hrec h hp har h4 hlr1 hs1 h5 hlr2 fn rc (n - 1) (fun ρ' W' st => hnext ρ' W' _ st (.bool _))
                · cases ho5
              · cases ho5
            · cases ho4
          · cases ho4
        · cases ho2
      · cases ho2
    · cases ho2

end
end Go.Eng
/-
  Regions: operations in the text's order, or in whatever order their edges allow.
-/
namespace Go.Eng
noncomputable section
variable {P : Program}

/-! ### Is an operation carried out? -/
theorem wanted_sim {ρ : Ren} {ops : Array Oper} {a : AAct} {ca : Act} {o : Oper} {b : Bool} (h : aWanted ops.toList a o = .ok b) (hsz : ca.tmps.size = a.n)
    (ht : ∀ g w d, o.guard = some (g, w) → (ops[g]?).bind (·.dst) = some d → VR ρ ((a.tm.get d).getD undef) (ca.tmps.getD d undef)) : Region.wanted o (yielded ops ca.tmps) = b := by
  unfold aWanted at h
  unfold Region.wanted
  cases hg : o.guard with
  | none => rw [hg] at h; cases h; rfl
  | some gw =>
    obtain ⟨g, want⟩ := gw
    rw [hg] at h
    simp only at h ⊢
    have hops : ops.toList[g]? = ops[g]? := by simp
    rw [hops] at h
    unfold yielded
    cases hd : (ops[g]?).bind (·.dst) with
    | none => rw [hd] at h; cases h
    | some d =>
      rw [hd] at h
      simp only at h ⊢
      by_cases hlt : d < a.n
      · rw [if_pos hlt] at h
        have hv := ht g want d hg hd
        have hlt' : d < ca.tmps.size := by rw [hsz]; exact hlt
        have hget : ca.tmps[d]? = some (ca.tmps.getD d undef) := by simp [Array.getD_eq_getD_getElem?, hlt']
        simp only [Option.bind_some, hget]
        generalize ca.tmps.getD d undef = u at hv
        split at h
        · rename_i b' hb
          cases h
          rw [hb] at hv
          rw [hv.bool_inv]
          simp
        · rename_i hn
          cases h
          have hnb : ∀ b', u ≠ .bool b' := fun b' e => by
            subst e
            cases hm : a.tm.get d with
            | none => rw [hm] at hv; cases hv
            | some v =>
              rw [hm] at hv
              simp only [Option.getD_some] at hv
              cases hv
              exact hn _ hm
          cases u <;> first | rfl | exact absurd rfl (hnb _)
      · rw [if_neg hlt] at h; cases h

/-! ### In the text's order -/
theorem deferOf_some {o : Op} {c : Call} (h : deferOf o = some c) : o = .defer c := by
  cases o <;> simp [deferOf] at h
  rw [h]

theorem defer_wp {a : AAct} {ca : Act} {ρ : Ren} {W : World} {d : ADef} {o : Oper} {c : Call} (hop : o.op = .defer c) (hE : ∀ x, OpE a ca ρ x) (h : aDefer a c = .ok d) (n : Nat) {next : Act → World → Prop} {Q : Exit → Act → World → Prop}
    (hnext : ∀ cd, DefR ρ d cd → next ({ ca with defers := cd :: ca.defers }.put o.dst undef) W) : o.wpIn (WF none) n P ca W next Q := by
  refine ⟨about_any _ (fun f => trivial) o W ca.eval, ?_⟩
  obtain ⟨dst, op, ty, ps, af, gu⟩ := o
  simp only at hop
  subst hop
  obtain ⟨cal, args, ats⟩ := c
  unfold aDefer at h
  obtain ⟨vs, h1, h2⟩ := bok h
  have hl := allR_eval (ca := ca) (ρ := ρ) h1 (fun x _ => hE x)
  simp only at h2
  cases cal with
  | builtin b => cases h2
  | invoke r m => cases h2
  | value f =>
    simp only at h2
    obtain ⟨fv, h3, h4⟩ := bok h2
    have hfv := hE f _ h3
    obtain ⟨fv', hfe⟩ : ∃ fv', ca.eval f = fv' := ⟨_, rfl⟩
    rw [hfe] at hfv
    split at h4
    · rename_i g first cap
      cases h4
      cases hfv with
      | func e1 e2 e3 e4 =>
        rename_i first' cap'
        have hrun : (Oper.semAt (WF none).round ca.eval ⟨dst, .defer ⟨.value f, args, ats⟩, ty, ps, af, gu⟩).run P W = .ok (.defer { target := .fn (.func g) cap', args := first' ++ args.map ca.eval }) W := by
          show (execOp ca.eval ⟨dst, .defer ⟨.value f, args, ats⟩, ty, ps, af, gu⟩).run P W = _
          simp only [execOp, resolve, hfe, Deferred.ofValue, Sem.run_bind, Sem.run_pure, Result.andThen]
        rw [hrun, Oper.uponIn_defer]
        refine hnext _ ⟨cap', first' ++ args.map ca.eval, rfl, ?_⟩
        have : (first' ++ args.map ca.eval).toList ++ cap'.toList = first'.toList ++ args.toList.map ca.eval ++ cap'.toList := by simp
        rw [this]
        exact LR.append (LR.append ⟨e1, e2⟩ hl) ⟨e3, e4⟩
    · cases h4

theorem ops_sim {rec : Rec} (hrec : RecOK P rec) {ops : Array Oper} (r rc : Option Nat) (hrr : r = none → rc = none) (n : Nat) {Q : Exit → Act → World → Prop} : ∀ (os : List Oper) (idxs : List Nat) (a a' : AAct) (ca : Act) (ρ : Ren) (H H' : AH) (W : World),
    aOps P rec r ops.toList os a H = .ok (a', H') → idxs.length = os.length → (∀ (k i : Nat) (o : Oper), idxs[k]? = some i → os[k]? = some o → ops[i]? = some o) → Rel ρ H W → AR ρ a ca →
    (∀ ρ' ca' W', St ρ H W ρ' H' W' → AR ρ' a' ca' → Q .normal ca' W') → wpOpsIn (WF rc) n P ops Q idxs ca W
  | [], idxs, a, a', ca, ρ, H, H', W, h, hl, _, hR, hA, hQ => by
    cases idxs with
    | cons _ _ => simp at hl
    | nil =>
      simp only [aOps] at h
      cases h
      exact hQ ρ ca W (St.refl hR) hA
  | o :: os, [], a, a', ca, ρ, H, H', W, h, hl, _, hR, hA, hQ => by simp at hl
  | o :: os, i :: idxs, a, a', ca, ρ, H, H', W, h, hl, hix, hR, hA, hQ => by
    have hi : ops[i]? = some o := hix 0 i o rfl rfl
    have hix' : ∀ (k i : Nat) (o : Oper), idxs[k]? = some i → os[k]? = some o → ops[i]? = some o := fun k j u h1 h2 => hix (k + 1) j u (by simpa using h1) (by simpa using h2)
    simp only [aOps] at h
    obtain ⟨b, h1, h2⟩ := bok h
    clear h
    have hw := wanted_sim (ρ := ρ) h1 hA.tm.1 (fun g w d _ _ => hA.tm.2 d)
    simp only [wpOpsIn, hi]
    cases b with
    | true =>
      simp only [if_true] at h2
      rw [if_pos hw]
      split at h2
      · rename_i c hdo
        split at h2
        · cases h2
        rename_i hrn
        have hr0 : r = none := by cases r <;> simp at hrn ⊢
        have hrc := hrr hr0
        subst hrc
        obtain ⟨d, h3, h4⟩ := bok h2
        obtain ⟨a1, h5, h6⟩ := bok h4
        refine defer_wp (deferOf_some hdo) (fun x => hA.eval x) h3 n (fun cd hcd => ?_)
        have hA2 : AR ρ { a with marks := d :: a.marks } { ca with defers := cd :: ca.defers } := ⟨hA.tm, hA.marks.cons hcd⟩
        exact ops_sim hrec r none hrr n os idxs a1 a' _ ρ H H' W h6 (by simpa using hl) hix' hR (hA2.put h5 (VR.undef _)) hQ
      · obtain ⟨⟨v, H1⟩, h3, h4⟩ := bok h2
        clear h2
        obtain ⟨a1, h5, h6⟩ := bok h4
        clear h4
        refine op_wp hrec hR (fun x _ => hA.eval x) h3 rc n (fun ρ' W' v' hst hvr => ?_)
        exact ops_sim hrec r rc hrr n os idxs a1 a' _ ρ' H1 H' W' h6 (by simpa using hl) hix' hst.rel ((hA.mono hst.le).put h5 hvr) (fun ρ'' ca' W'' hst' ha' => hQ ρ'' ca' W'' (hst.trans hst') ha')
    | false =>
      simp only [Bool.false_eq_true, if_false] at h2
      obtain ⟨a1, h5, h6⟩ := bok h2
      rw [if_neg (by rw [hw]; simp)]
      exact ⟨about_any _ (fun f => trivial) o W ca.eval, ops_sim hrec r rc hrr n os idxs a1 a' _ ρ H H' W h6 (by simpa using hl) hix' hR (hA.put h5 (VR.undef _)) hQ⟩

/-! ### The order left open -/
theorem bitsIn_iff {a b : Nat} : bitsIn a b = true ↔ ∀ i, a.testBit i = true → b.testBit i = true := by
  unfold bitsIn
  rw [beq_iff_eq]
  constructor
  · intro h i hi
    have : (a &&& b).testBit i = true := by rw [h]; exact hi
    rw [Nat.testBit_and] at this
    simp at this
    exact this.2
  · intro h
    apply Nat.eq_of_testBit_eq
    intro i
    rw [Nat.testBit_and]
    cases ha : a.testBit i with
    | false => rfl
    | true => simp [h i ha]

theorem clo1_bit (acc : List Nat) (o : Oper) (i : Nat) : (clo1 acc o).testBit i = true ↔ ∃ e ∈ o.after.toList, Region.binds .any e = true ∧ (i = e.on ∨ (acc.getD e.on 0).testBit i = true) := by
  unfold clo1
  have key : ∀ (l : List Edge) (m : Nat), (l.foldl (fun m e => if Region.binds .any e then m ||| 2 ^ e.on ||| acc.getD e.on 0 else m) m).testBit i = true ↔ m.testBit i = true ∨ ∃ e ∈ l, Region.binds .any e = true ∧ (i = e.on ∨ (acc.getD e.on 0).testBit i = true) := by
    intro l
    induction l with
    | nil => intro m; simp
    | cons e l ih =>
      intro m
      rw [List.foldl_cons, ih]
      by_cases hb : Region.binds .any e = true
      · simp only [hb, if_true, Nat.testBit_or, Nat.testBit_two_pow, Bool.or_eq_true, decide_eq_true_eq, List.mem_cons, exists_eq_or_imp, true_and]
        constructor
        · intro h
          rcases h with ((h | h) | h) | h
          · exact .inl h
          · exact .inr (.inl (.inl h.symm))
          · exact .inr (.inl (.inr h))
          · exact .inr (.inr h)
        · intro h
          rcases h with h | ((h | h) | h)
          · exact .inl (.inl (.inl h))
          · exact .inl (.inl (.inr h.symm))
          · exact .inl (.inr h)
          · exact .inr h
      · have hbf : Region.binds .any e = false := by simpa using hb
        simp [hbf]
  rw [key]
  simp

theorem clos_go : ∀ (os : List Oper) (acc : List Nat), ∃ ext, os.foldl (fun acc o => acc ++ [clo1 acc o]) acc = acc ++ ext ∧ ext.length = os.length ∧
    ∀ (j : Nat) (o : Oper), os[j]? = some o → ext[j]? = some (clo1 (acc ++ ext.take j) o)
  | [], acc => ⟨[], by simp, rfl, fun j o h => by simp at h⟩
  | o :: os, acc => by
    obtain ⟨ext, h1, h2, h3⟩ := clos_go os (acc ++ [clo1 acc o])
    refine ⟨clo1 acc o :: ext, by rw [List.foldl_cons, h1]; simp, by simp [h2], fun j u hj => ?_⟩
    cases j with
    | zero => simp at hj; subst hj; simp
    | succ j =>
      simp only [List.getElem?_cons_succ] at hj ⊢
      rw [h3 j u hj]
      simp

theorem clos_bit {os : List Oper} {j : Nat} {o : Oper} (hj : os[j]? = some o) (hlt : ∀ e ∈ o.after.toList, Region.binds .any e = true → e.on < j) (i : Nat) :
    ((clos os).getD j 0).testBit i = true ↔ ∃ e ∈ o.after.toList, Region.binds .any e = true ∧ (i = e.on ∨ ((clos os).getD e.on 0).testBit i = true) := by
  obtain ⟨ext, h1, h2, h3⟩ := clos_go os []
  have e : clos os = ext := by unfold clos; simpa using h1
  rw [e]
  have h4 := h3 j o hj
  simp only [List.nil_append] at h4
  rw [show ext.getD j 0 = clo1 (ext.take j) o by rw [List.getD_eq_getElem?_getD, h4]; rfl, clo1_bit]
  have ht : ∀ k, k < j → (ext.take j).getD k 0 = ext.getD k 0 := fun k hk => by
    rw [List.getD_eq_getElem?_getD, List.getD_eq_getElem?_getD, List.getElem?_take, if_pos hk]
  constructor
  · rintro ⟨e, he, hb, h⟩
    exact ⟨e, he, hb, by rw [ht _ (hlt e he hb)] at h; exact h⟩
  · rintro ⟨e, he, hb, h⟩
    exact ⟨e, he, hb, by rw [ht _ (hlt e he hb)]; exact h⟩

/-- what has come up stays below what it waits for -/
def Down (os : List Oper) (D : Nat → Prop) : Prop := ∀ j o, D j → os[j]? = some o → ∀ e ∈ o.after.toList, Region.binds .any e = true → D e.on

def EdgesBack (os : List Oper) : Prop := ∀ j o, os[j]? = some o → ∀ e ∈ o.after.toList, Region.binds .any e = true → e.on < j

theorem clo_down {os : List Oper} (hb : EdgesBack os) {D : Nat → Prop} (hD : Down os D) : ∀ (j : Nat) (o : Oper), os[j]? = some o → (∀ e ∈ o.after.toList, Region.binds .any e = true → D e.on) → ∀ i, ((clos os).getD j 0).testBit i = true → D i := by
  intro j
  induction j using Nat.strongRecOn with
  | _ j ih =>
    intro o hj hd i hi
    obtain ⟨e, he, hbi, h⟩ := (clos_bit hj (hb j o hj) i).1 hi
    rcases h with rfl | h
    · exact hd e he hbi
    · have hlt := hb j o hj e he hbi
      have hjl : j < os.length := by
        rcases Nat.lt_or_ge j os.length with h' | h'
        · exact h'
        · rw [List.getElem?_eq_none h'] at hj; cases hj
      have hen : os[e.on]? = some os[e.on] := List.getElem?_eq_getElem (by omega)
      exact ih e.on hlt _ hen (hD e.on _ (hd e he hbi) hen) i h

theorem fold_steps {α β : Type} {f : α → β → R α} : ∀ (l : List β) (s s' : α), l.foldlM f s = .ok s' → ∃ S : Nat → α, S 0 = s ∧ S l.length = s' ∧ ∀ (p : Nat) (j : β), l[p]? = some j → f (S p) j = .ok (S (p + 1))
  | [], s, s', h => by
    simp only [List.foldlM_nil] at h
    cases h
    exact ⟨fun _ => s, rfl, rfl, fun p j h => by simp at h⟩
  | x :: l, s, s', h => by
    simp only [List.foldlM_cons] at h
    obtain ⟨s1, h1, h2⟩ := bok h
    obtain ⟨S, e1, e2, e3⟩ := fold_steps l s1 s' h2
    refine ⟨fun p => match p with | 0 => s | p + 1 => S p, rfl, e2, fun p j hp => ?_⟩
    cases p with
    | zero => simp at hp; subst hp; rw [h1]; exact congrArg Except.ok e1.symm
    | succ p => exact e3 p j (by simpa using hp)

theorem zip_all {n : Nat} (ih : ∀ {v u : Value}, veq n v u = true → u = v) : ∀ (l m : List Value), l.length = m.length → ((l.zip m).all fun (p : Value × Value) => veq n p.1 p.2) = true → m = l
  | [], [], _, _ => rfl
  | [], _ :: _, h, _ => by simp at h
  | _ :: _, [], h, _ => by simp at h
  | a :: l, b :: m, h, hz => by
    simp only [List.zip_cons_cons, List.all_cons, Bool.and_eq_true] at hz
    rw [ih hz.1, zip_all ih l m (by simpa using h) hz.2]

theorem fnEq_eq {p q : Fn} (h : fnEq p q = true) : q = p := by
  cases p <;> cases q <;> simp [fnEq] at h
  rw [h]

theorem veq_eq : ∀ (n : Nat) {v u : Value}, veq n v u = true → u = v := by
  intro n
  induction n with
  | zero =>
    intro v u h
    cases v <;> cases u <;> simp [veq] at h
    all_goals first
      | rfl
      | (simp [h]; done)
      | (rename_i a b; have e : b = a := (by cases a; cases b; congr 1; simpa using h.symm); rw [e]; done)
  | succ n ih =>
    intro v u h
    have arr : ∀ (a b : Array Value), a.size = b.size → ((a.toList.zip b.toList).all fun (x, y) => veq n x y) = true → b = a := fun a b h1 h2 => Array.ext' (zip_all ih a.toList b.toList (by simpa using h1) h2)
    cases v <;> cases u <;> simp only [veq] at h <;> first | (cases h; done) | skip
    all_goals first
      | rfl
      | (simp at h; simp [h]; done)
      | (rename_i a b; simp at h; have e : b = a := (by cases a; cases b; congr 1; simpa using h.symm); rw [e]; done)
      | (rename_i a b; simp only [Bool.and_eq_true, beq_iff_eq] at h; rw [arr a b h.1 h.2]; done)
      | (simp only [Bool.and_eq_true, beq_iff_eq] at h; rw [h.1, ih h.2]; done)
      | (simp only [Bool.and_eq_true, beq_iff_eq] at h; rw [fnEq_eq h.1, arr _ _ h.2.1.1 h.2.1.2, arr _ _ h.2.2.1 h.2.2.2]; done)

end
end Go.Eng
