/-
  Operations of the abstract machine go along with those of the model: all of them but calls of functions.
-/
import Derived.Test.YtjobmgleekphjaaE9m
set_option linter.unusedSimpArgs false
namespace Go.Eng
noncomputable section
variable {P : Program}

section
variable {a : AAct} {ca : Act} {ρ : Ren} {H H' : AH} {W : World} {v : Value} {rec : Rec} {d : Option Tmp} {ty : TypeId} {ps : String} {af : Array Edge} {gu : Option (Nat × Bool)}

theorem len_sim {t : TypeId} {x x' : Value} (h : aLen P t x = .ok v) (hx : VR ρ x x') {argTypes : Array TypeId} (h0 : argTypes[0]? = some t) (w : World) :
    (Builtin.len_ argTypes ty #[x']).run P w = .ok v w ∧ VR ρ v v := by
  unfold aLen at h
  split at h
  · rename_i s hu
    cases h
    rw [hx.string_inv]
    refine ⟨?_, .int _ _⟩
    simp [Builtin.len_, h0, run_underlying' hu, Result.andThen, goInt]
  · rename_i e b n c hu
    cases h
    refine ⟨?_, .int _ _⟩
    cases hx with
    | sliceNil => simp [Builtin.len_, h0, run_underlying' hu, Result.andThen, goInt]
    | slice hp hc => simp [Builtin.len_, h0, run_underlying' hu, Result.andThen, goInt]
    | sliceEnd => simp [Builtin.len_, h0, run_underlying' hu, Result.andThen, goInt]
  · rename_i n e hu
    cases h
    refine ⟨?_, .int _ _⟩
    cases x' <;> simp [Builtin.len_, h0, run_underlying' hu, Result.andThen, goInt]
  · cases h

theorem copy_sim {t elem size : TypeId} {dv dv' x x' : Value} {new : List Value} {m : Nat} (h : Rel ρ H W) (hu : P.underlying t = some (.slice elem)) (hs : tSize P elem = .ok size) (ha : appended P H elem false x = .ok (new, m))
    (hd : VR ρ dv dv') (hx : VR ρ x x') {argTypes : Array TypeId} (h0 : argTypes[0]? = some t)
    (hc : (match dv with
            | .slice none 0 0 => .ok (.int .i64 0, H)
            | .slice (some ⟨id, off, none⟩) n _ =>
              if min m n = 0 then .ok (.int .i64 0, H) else do
              .ok (.int .i64 ((min m n : Nat) : Int), ← H.write id off (new.take (min m n * size)))
            | _ => .error 88 : R (Value × AH)) = .ok (v, H')) :
    ∃ ρ' W' v', (Builtin.copy_ argTypes ty #[dv', x']).run P W = .ok v' W' ∧ St ρ H W ρ' H' W' ∧ VR ρ' v v' := by
  obtain ⟨new', hl, hlen, hall⟩ := appended_sim (W := W) h ha hs hx
  obtain ⟨hn, hf⟩ := (hall W rfl).2 rfl
  have run : ∀ (base : Option Addr) (n c : Nat) (W' : World), (∀ a, base = some a → (storeCells a (new'.take (min m n * size))).run P W = .ok () W') → (base = none → W' = W) →
      (Builtin.copy_ argTypes ty #[.slice base n c, x']).run P W = .ok (.int .i64 (min m n : Nat)) W' := fun base n c W' h1 h2 => by
    have hfk := hf (min m n) (Nat.min_le_left _ _)
    unfold Builtin.copy_
    simp only [h0, List.getElem?_toArray, List.getElem?_cons_zero, List.getElem?_cons_succ, Sem.run_bind, run_underlying' hu, Result.andThen, hn, run_sizeOf' hs, Nat.min_def] at hfk ⊢
    rw [hfk]
    simp only [List.toList_toArray, Nat.min_def] at h1 ⊢
    cases base with
    | none => rw [h2 rfl]; rfl
    | some a => simp only [Sem.run_bind, h1 a rfl, Result.andThen, Sem.run_pure]; rfl
  split at hc
  · cases hc
    cases hd with
    | sliceNil =>
      have := run none 0 0 W (fun a e => by cases e) (fun _ => rfl)
      exact ⟨ρ, W, _, this, St.refl h, by simp; exact .int _ _⟩
  · rename_i id off n c
    split at hc
    · rename_i hk
      cases hc
      have st0 : ∀ a, (storeCells a (new'.take (min m n * size))).run P W = .ok () W := fun a => by rw [hk]; simp [storeCells]
      cases hd with
      | slice hp hcc => exact ⟨ρ, W, _, run _ _ _ W (fun a _ => st0 a) (fun e => by cases e), St.refl h, by rw [hk]; exact .int _ _⟩
      | sliceEnd => exact ⟨ρ, W, _, run _ _ _ W (fun a _ => st0 a) (fun e => by cases e), St.refl h, by rw [hk]; exact .int _ _⟩
    · rename_i hk
      obtain ⟨H1, hw, hc2⟩ := bok hc
      cases hc2
      cases hd with
      | slice hp hcc =>
        obtain ⟨W', w1, w2⟩ := St.write (P := P) h hw hp (hl.take _)
        refine ⟨ρ, W', _, run _ _ _ W' (fun a e => by cases e; exact w1) (fun e => by cases e), w2, ?_⟩
        exact .int _ _
      | sliceEnd => simp at hk
  · cases hc

theorem exec_builtin {b : Builtin} {args : Array Operand} {ats : Array TypeId} {v' : Value} {W' : World} (h : (builtin b ats ty (args.map fun | .const _ => true | _ => false) (args.map ca.eval)).run P W = .ok (.value v') W') :
    (execOp ca.eval ⟨d, .call ⟨.builtin b, args, ats⟩, ty, ps, af, gu⟩).run P W = .ok (.value v') W' := by
  simp only [execOp, resolve, Sem.run_bind, Sem.run_pure, Result.andThen, invoke]
  exact h

theorem args2 {args : Array Operand} {s x : Value} (h : allR a.eval args.toList = .ok [s, x]) (hE : ∀ y ∈ args.toList, OpE a ca ρ y) : ∃ s' x', args.map ca.eval = #[s', x'] ∧ VR ρ s s' ∧ VR ρ x x' := by
  have hl := allR_eval h hE
  obtain ⟨s', m1, e1, v1, l1⟩ := hl.cons_inv
  obtain ⟨x', m2, e2, v2, l2⟩ := l1.cons_inv
  have := l2.nil_inv
  subst this; subst e2
  refine ⟨s', x', ?_, v1, v2⟩
  apply Array.ext'
  rw [Array.toList_map, e1]

theorem args1 {args : Array Operand} {x : Value} (h : allR a.eval args.toList = .ok [x]) (hE : ∀ y ∈ args.toList, OpE a ca ρ y) : ∃ x', args.map ca.eval = #[x'] ∧ VR ρ x x' := by
  have hl := allR_eval h hE
  obtain ⟨x', m2, e2, v2, l2⟩ := hl.cons_inv
  have := l2.nil_inv
  subst this
  refine ⟨x', ?_, v2⟩
  apply Array.ext'
  rw [Array.toList_map, e2]

theorem ats0 {ats : Array TypeId} {t : TypeId} {l : List TypeId} (h : ats.toList = t :: l) : ats[0]? = some t := by
  rw [← Array.getElem?_toList, h]; rfl

theorem sim_builtin {b : Builtin} {args : Array Operand} {ats : Array TypeId} (h : Rel ρ H W) (hE : ∀ y ∈ args.toList, OpE a ca ρ y) (ho : aOp P rec a H ⟨d, .call ⟨.builtin b, args, ats⟩, ty, ps, af, gu⟩ = .ok (v, H')) :
    Sim1 P ⟨d, .call ⟨.builtin b, args, ats⟩, ty, ps, af, gu⟩ ρ H W ca v H' := by
  simp only [aOp] at ho
  obtain ⟨vs, h1, ho1⟩ := bok ho
  clear ho
  split at ho1
  · -- len
    rename_i x
    split at ho1
    · rename_i t l ht
      obtain ⟨u, h2, h3⟩ := bok ho1
      cases h3
      obtain ⟨x', e, hx⟩ := args1 h1 hE
      obtain ⟨k1, k2⟩ := len_sim (ty := ty) h2 hx (ats0 ht) W
      refine .same h (v' := v) (exec_builtin ?_) k2
      rw [e]
      simp only [builtin, Sem.run_bind, k1, Result.andThen, Sem.run_pure]
    · cases ho1
  · cases ho1
  · -- append
    rename_i s x
    obtain ⟨s', x', e, hs, hx⟩ := args2 h1 hE
    have fin : ∀ (t : TypeId) (u : Option TypeId), ats[0]? = some t → ats[1]? = u → aAppend P H t u s x = .ok (v, H') → Sim1 P ⟨d, .call ⟨.builtin .append, args, ats⟩, ty, ps, af, gu⟩ ρ H W ca v H' := fun t u e0 e1 ha => by
      obtain ⟨ρ', W', v', k1, k2, k3⟩ := append_sim (ty := ty) h ha hs hx e0 e1
      refine ⟨ρ', W', v', .inl (exec_builtin ?_), k2, k3⟩
      rw [e]
      simp only [builtin, Sem.run_bind, k1, Result.andThen, Sem.run_pure]
    split at ho1
    · rename_i t ht
      exact fin t none (ats0 ht) (by rw [← Array.getElem?_toList, ht]; rfl) ho1
    · rename_i t u l ht
      exact fin t (some u) (ats0 ht) (by rw [← Array.getElem?_toList, ht]; rfl) ho1
    · cases ho1
  · -- copy
    rename_i dv x
    obtain ⟨dv', x', e, hd, hx⟩ := args2 h1 hE
    split at ho1
    · rename_i t l ht
      split at ho1
      · rename_i elem hu
        obtain ⟨size, h2, ho2⟩ := bok ho1
        clear ho1
        obtain ⟨⟨new, m⟩, h3, ho3⟩ := bok ho2
        clear ho2
        obtain ⟨ρ', W', v', k1, k2, k3⟩ := copy_sim (ty := ty) h hu h2 h3 hd hx (ats0 ht) ho3
        refine ⟨ρ', W', v', .inl (exec_builtin ?_), k2, k3⟩
        rw [e]
        simp only [builtin, Sem.run_bind, k1, Result.andThen, Sem.run_pure]
      · cases ho1
    · cases ho1
  · -- max
    split at ho1
    · rename_i hg
      obtain ⟨u, h2, h3⟩ := bok ho1
      cases h3
      obtain ⟨g1, g2⟩ := gOnly_ok h2
      have hl := allR_eval h1 hE
      have e : args.map ca.eval = vs.toArray := by
        apply Array.ext'
        rw [Array.toList_map]
        apply List.ext_getElem?
        intro i
        cases hi : vs[i]? with
        | none =>
          have : vs.length ≤ i := List.getElem?_eq_none_iff.1 hi
          rw [List.getElem?_eq_none (by rw [← hl.1]; exact this)]
        | some u =>
          obtain ⟨u', q1, q2⟩ := hl.get hi
          rw [q1, gnd_eq _ (List.all_eq_true.1 hg u (List.mem_of_getElem? hi)) q2]
      refine .same h (v' := v) (exec_builtin ?_) (gnd_refl _ g2)
      rw [e]
      have := pureRun_ok _ g1 W
      simp only [builtin, Sem.run_bind, Result.andThen, Sem.run_pure]
      have e2 : (Builtin.max_ ats ty vs.toArray) = Builtin.max_ #[] 0 vs.toArray := rfl
      rw [e2, this]
    · cases ho1
  · -- min
    split at ho1
    · rename_i hg
      obtain ⟨u, h2, h3⟩ := bok ho1
      cases h3
      obtain ⟨g1, g2⟩ := gOnly_ok h2
      have hl := allR_eval h1 hE
      have e : args.map ca.eval = vs.toArray := by
        apply Array.ext'
        rw [Array.toList_map]
        apply List.ext_getElem?
        intro i
        cases hi : vs[i]? with
        | none =>
          have : vs.length ≤ i := List.getElem?_eq_none_iff.1 hi
          rw [List.getElem?_eq_none (by rw [← hl.1]; exact this)]
        | some u =>
          obtain ⟨u', q1, q2⟩ := hl.get hi
          rw [q1, gnd_eq _ (List.all_eq_true.1 hg u (List.mem_of_getElem? hi)) q2]
      refine .same h (v' := v) (exec_builtin ?_) (gnd_refl _ g2)
      rw [e]
      have := pureRun_ok _ g1 W
      simp only [builtin, Sem.run_bind, Result.andThen, Sem.run_pure]
      have e2 : (Builtin.min_ ats ty vs.toArray) = Builtin.min_ #[] 0 vs.toArray := rfl
      rw [e2, this]
    · cases ho1
  · cases ho1

/-- is it a call of a function value? -/
def isCallV : Op → Bool
  | .call ⟨.value _, _, _⟩ => true
  | .call ⟨.invoke _ _, _, _⟩ => true
  | _ => false

theorem op_val {o : Oper} (h : Rel ρ H W) (hE : ∀ x ∈ o.op.operands, OpE a ca ρ x) (hn : isCallV o.op = false) (ho : aOp P rec a H o = .ok (v, H')) : Sim1 P o ρ H W ca v H' := by
  obtain ⟨d, op, ty, ps, af, gu⟩ := o
  simp only at hE hn
  cases op with
  | move x => exact sim_move h (hE x (by simp [Op.operands])) ho
  | assign x => exact sim_assign h (hE x (by simp [Op.operands])) ho
  | pick c x y => exact sim_pick h (hE c (by simp [Op.operands])) (hE x (by simp [Op.operands])) (hE y (by simp [Op.operands])) ho
  | alloc t => exact sim_alloc h ho
  | box t x => exact sim_box h (hE x (by simp [Op.operands])) ho
  | build t parts => exact sim_build h (fun p hp => hE p.2 (by simp only [Op.operands, List.mem_toArray, List.mem_map]; exact ⟨p, hp, rfl⟩)) ho
  | buildSlice t n parts => exact sim_buildSlice h (fun p hp => hE p.2 (by simp only [Op.operands, List.mem_toArray, List.mem_map]; exact ⟨p, hp, rfl⟩)) ho
  | load t x => exact sim_load h (hE x (by simp [Op.operands])) ho
  | store t x y => exact sim_store h (hE x (by simp [Op.operands])) (hE y (by simp [Op.operands])) ho
  | nilCheck x => exact sim_nilCheck h (hE x (by simp [Op.operands])) ho
  | binOp op t x y t2 => exact sim_binOp h (hE x (by simp [Op.operands])) (hE y (by simp [Op.operands])) ho
  | unOp op t x => exact sim_unOp h (hE x (by simp [Op.operands])) ho
  | convert s t x => exact sim_convert h (hE x (by simp [Op.operands])) ho
  | makeInterface t x => exact sim_makeInterface h (hE x (by simp [Op.operands])) ho
  | makeFunc fn first cap => exact sim_makeFunc h (fun x hx => hE x (by simp [Op.operands]; exact .inl (by simpa using hx))) (fun x hx => hE x (by simp [Op.operands]; exact .inr (by simpa using hx))) ho
  | makeSlice t l c => exact sim_makeSlice h (hE l (by simp [Op.operands])) (hE c (by simp [Op.operands])) ho
  | slice t x lo hi mx => exact sim_slice h (hE x (by simp [Op.operands])) (fun y hy => hE y (by subst hy; simp [Op.operands])) (fun y hy => hE y (by subst hy; simp [Op.operands])) (fun y hy => hE y (by subst hy; simp [Op.operands])) ho
  | fieldAddr t x f => exact sim_fieldAddr h (hE x (by simp [Op.operands])) ho
  | field t x f => exact sim_field h (hE x (by simp [Op.operands])) ho
  | indexAddr t x i => exact sim_indexAddr h (hE x (by simp [Op.operands])) (hE i (by simp [Op.operands])) ho
  | index t x i => exact sim_index h (hE x (by simp [Op.operands])) (hE i (by simp [Op.operands])) ho
  | extract x i => exact sim_extract h (hE x (by simp [Op.operands])) ho
  | makeMap t x => exact sim_makeMap h (fun y hy => hE y (by subst hy; simp [Op.operands])) ho
  | lookup t x i ok => exact sim_lookup h (hE x (by simp [Op.operands])) (hE i (by simp [Op.operands])) ho
  | mapUpdate t m k x => exact sim_mapUpdate h (hE m (by simp [Op.operands])) (hE k (by simp [Op.operands])) (hE x (by simp [Op.operands])) ho
  | typeAssert x xt t ok => exact sim_typeAssert h (hE x (by simp [Op.operands])) ho
  | range t x => exact sim_range h (hE x (by simp [Op.operands])) ho
  | next x b => exact sim_next h (hE x (by simp [Op.operands])) ho
  | call c =>
    obtain ⟨cal, args, ats⟩ := c
    cases cal with
    | value f => simp [isCallV] at hn
    | invoke r m => simp [isCallV] at hn
    | builtin b => exact sim_builtin h (fun y hy => hE y (by simp [Op.operands, Call.operands]; simpa using hy)) ho
  | _ => first | (simp [aOp] at ho; done) | (simp only [aOp] at ho; cases ho)

end
end
end Go.Eng
