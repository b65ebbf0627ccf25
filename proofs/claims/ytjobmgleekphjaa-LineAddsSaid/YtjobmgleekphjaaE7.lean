/-
  Operations of the abstract machine go along with those of the model: slices, conversions, append, copy.
-/
import Derived.Test.YtjobmgleekphjaaE6
set_option linter.unusedSimpArgs false
namespace Go.Eng
noncomputable section
variable {P : Program}

def OVR (ρ : Ren) (x x' : Option Value) : Prop := match x, x' with
  | none, none => True
  | some v, some v' => VR ρ v v'
  | _, _ => False

theorem optIn_none {most other n : Nat} (h : optIn none most other = .ok n) : n = other := by cases h; rfl

theorem run_sliceBound {ρ : Ren} {v v' : Value} {most n : Nat} (h : natIn v most = .ok n) (hv : VR ρ v v') (y : Nat) (hy : most ≤ y) (code : BoundsCode) (w : World) : (Instr.sliceBound v' y code).run P w = .ok n w := by
  obtain ⟨k, i, rfl, h1, h2, rfl, _⟩ := natIn_ok h
  rw [hv.int_inv]
  have : 0 ≤ i ∧ i ≤ (y : Int) := ⟨h1, by omega⟩
  simp [Instr.sliceBound, asIntOf, Result.andThen, this]

/-- the bounds of a slice: the capacity may be greater on the given side, if no third bound is named -/
theorem run_bounds {ρ : Ren} {lo lo' hi hi' mx mx' : Option Value} {len c c' l h m : Nat} (hb : aBounds len c lo hi mx = .ok (l, h, m)) (h1 : OVR ρ lo lo') (h2 : OVR ρ hi hi') (h3 : OVR ρ mx mx') (hc : c ≤ c') (s : Bool) (w : World) :
    ∃ m', (Instr.sliceBounds s len c' lo' hi' mx').run P w = .ok (l, h, m') w ∧ l ≤ h ∧ h ≤ m ∧ ((m = c ∧ m' = c') ∨ (m' = m ∧ m ≤ c)) := by
  unfold aBounds at hb
  obtain ⟨m0, b1, b2⟩ := bok hb
  split at b2
  · cases b2
  rename_i hnn
  obtain ⟨h0, b3, b4⟩ := bok b2
  obtain ⟨l0, b5, b6⟩ := bok b4
  split at b6
  case isFalse => cases b6
  rename_i hle
  cases b6
  have lowrun : ∀ code, (match lo' with | some v => Instr.sliceBound v h code | none => pure 0 : Sem Nat).run P w = .ok l w := fun code => by
    cases lo with
    | none => cases lo' with
      | none => rw [optIn_none b5]; rfl
      | some _ => exact h1.elim
    | some v => cases lo' with
      | none => exact h1.elim
      | some v' => exact run_sliceBound b5 h1 _ (Nat.le_refl _) _ w
  cases mx with
  | none =>
    cases mx' with
    | some _ => exact h3.elim
    | none =>
      have := optIn_none b1; subst this
      refine ⟨c', ?_, hle.1, hle.2, .inl ⟨rfl, rfl⟩⟩
      have hirun : ∀ code, (match hi' with | some v => Instr.sliceBound v c' code | none => pure len : Sem Nat).run P w = .ok h w := fun code => by
        cases hi with
        | none => cases hi' with
          | none => rw [optIn_none b3]; rfl
          | some _ => exact h2.elim
        | some v => cases hi' with
          | none => exact h2.elim
          | some v' => exact run_sliceBound b3 h2 _ hc _ w
      unfold Instr.sliceBounds
      simp only [Sem.run_bind, Sem.run_pure, Result.andThen]
      have e1 := hirun (if s then .sliceAcap else .sliceAlen)
      have e2 := lowrun .sliceB
      cases hi' with
      | none =>
        simp only [Sem.run_pure] at e1
        cases e1
        simp only [Sem.run_pure]
        cases lo' with
        | none => simp only [Sem.run_pure] at e2; cases e2; simp
        | some v' =>
          have e2' : (Instr.sliceBound v' len .sliceB).run P w = .ok l w := e2
          simp [e2']
      | some u =>
        have e1' : (Instr.sliceBound u c' (if s then .sliceAcap else .sliceAlen)).run P w = .ok h w := e1
        simp only [e1', Result.andThen, Sem.run_bind]
        cases lo' with
        | none => simp only [Sem.run_pure] at e2; cases e2; simp
        | some v' =>
          have e2' : (Instr.sliceBound v' h .sliceB).run P w = .ok l w := e2
          simp [e2']
  | some mv =>
    cases mx' with
    | none => exact h3.elim
    | some mv' =>
      cases hi with
      | none => simp at hnn
      | some hv => cases hi' with
        | none => exact h2.elim
        | some hv' =>
          have hmle : m ≤ c := by obtain ⟨_, _, _, _, _, _, q⟩ := natIn_ok b1; exact q
          refine ⟨m, ?_, hle.1, hle.2, .inr ⟨rfl, hmle⟩⟩
          have e0 := run_sliceBound (P := P) b1 h3 c' hc (if s then .slice3Acap else .slice3Alen) w
          have e1 := run_sliceBound (P := P) b3 h2 m (Nat.le_refl _) .slice3B w
          have e2 := lowrun .slice3C
          unfold Instr.sliceBounds
          simp only [Sem.run_bind, e0, e1, Result.andThen]
          cases lo' with
          | none => simp only [Sem.run_pure] at e2; cases e2; simp
          | some v' =>
            have e2' : (Instr.sliceBound v' h .slice3C).run P w = .ok l w := e2
            simp [e2']

section ops
variable {a : AAct} {ca : Act} {ρ : Ren} {H H' : AH} {W : World} {v : Value} {rec : Rec} {d : Option Tmp} {ty : TypeId} {ps : String} {af : Array Edge} {gu : Option (Nat × Bool)}

theorem slice_rel {id off size l h m m' c c' : Nat} {pl : Pl} (hp : ρ id = some pl) (hc : c' = c ∨ (pl.esz ≠ 0 ∧ c ≤ c' ∧ off + c' * pl.esz ≤ pl.ext)) (hsz : pl.esz = size ∨ pl.esz = 0) (hlh : l ≤ h) (hhm : h ≤ m)
    (hm : (m = c ∧ m' = c') ∨ (m' = m ∧ m ≤ c)) :
    VR ρ (.slice (some ⟨id, off + l * size, none⟩) (h - l) (m - l)) (.slice (some (if m' = l then ⟨pl.blk, pl.base + off, none⟩ else (⟨pl.blk, pl.base + off, none⟩ : Addr).add (l * size))) (h - l) (m' - l)) := by
  by_cases e : m' = l
  · have : m = l ∧ h = l := by
      rcases hm with ⟨rfl, rfl⟩ | ⟨rfl, _⟩
      · rcases hc with rfl | ⟨_, hc, _⟩ <;> omega
      · omega
    obtain ⟨rfl, rfl⟩ := this
    rw [if_pos e, e]
    simp only [Nat.sub_self]
    exact .sliceEnd
  · rw [if_neg e, addr_add, Nat.add_assoc]
    refine .slice hp ?_
    rcases hm with ⟨rfl, rfl⟩ | ⟨rfl, _⟩
    · rcases hc with rfl | ⟨h1, h2, h3⟩
      · exact .inl rfl
      · refine .inr ⟨h1, by omega, ?_⟩
        have : pl.esz = size := by rcases hsz with h | h; exact h; exact absurd h h1
        subst this
        have hle : l ≤ m' := by omega
        obtain ⟨k, rfl⟩ : ∃ k, m' = l + k := ⟨m' - l, by omega⟩
        rw [Nat.add_sub_cancel_left]
        rw [Nat.add_mul] at h3
        omega
    · exact .inl rfl

theorem sim_slice {t : TypeId} {x : Operand} {lo hi mx : Option Operand} (h : Rel ρ H W) (hx : OpE a ca ρ x) (h1 : ∀ y, lo = some y → OpE a ca ρ y) (h2 : ∀ y, hi = some y → OpE a ca ρ y) (h3 : ∀ y, mx = some y → OpE a ca ρ y)
    (ho : aOp P rec a H ⟨d, .slice t x lo hi mx, ty, ps, af, gu⟩ = .ok (v, H')) : Sim1 P ⟨d, .slice t x lo hi mx, ty, ps, af, gu⟩ ρ H W ca v H' := by
  simp only [aOp] at ho
  obtain ⟨u, k1, ho1⟩ := bok ho
  clear ho
  obtain ⟨lov, k2, ho2⟩ := bok ho1
  clear ho1
  obtain ⟨hiv, k3, ho3⟩ := bok ho2
  clear ho2
  obtain ⟨mxv, k4, ho4⟩ := bok ho3
  clear ho3
  obtain ⟨r, k5, ho5⟩ := bok ho4
  clear ho4
  cases ho5
  have ov : ∀ (y : Option Operand) (yv : Option Value), (∀ z, y = some z → OpE a ca ρ z) → (match y with | some z => do let __do_lift ← a.eval z; Except.ok (some __do_lift) | none => Except.ok none : R (Option Value)) = .ok yv → OVR ρ yv (y.map ca.eval) := fun y yv hy e => by
    cases y with
    | none => cases e; trivial
    | some z => obtain ⟨w, e1, e2⟩ := bok e; cases e2; exact hy z rfl _ e1
  have o1 := ov lo lov h1 k2
  have o2 := ov hi hiv h2 k3
  have o3 := ov mx mxv h3 k4
  have hxv := hx _ k1
  obtain ⟨xv, hxe⟩ : ∃ xv, ca.eval x = xv := ⟨_, rfl⟩
  rw [hxe] at hxv
  unfold aSlice at k5
  split at k5
  · rename_i n elem hu
    obtain ⟨⟨id, off⟩, q1, k6⟩ := bok k5
    clear k5
    obtain ⟨⟨l, hh, m⟩, q2, k7⟩ := bok k6
    clear k6
    obtain ⟨size, q3, k8⟩ := bok k7
    cases k8
    cases addrOf_ok q1
    obtain ⟨pl, hp, rfl⟩ := hxv.at
    obtain ⟨m', r1, r2, r3, r4⟩ := run_bounds (P := P) q2 o1 o2 o3 (Nat.le_refl n) false W
    have hmm : m' = m := by rcases r4 with ⟨e1, e2⟩ | ⟨e1, _⟩ <;> omega
    subst hmm
    refine .same h (v' := _) (by simp only [execOp, Instr.sliceAt, hxe, Sem.run_bind, run_underlying' hu, Result.andThen, Instr.sureAddr, Sem.run_pure, r1, run_sizeOf' q3]; rfl) ?_
    by_cases e : m' = l
    · have : hh = l := by omega
      rw [if_pos e]
      simp only [e, this, Nat.sub_self]
      exact .sliceEnd
    · rw [if_neg e, addr_add, Nat.add_assoc]
      exact .slice hp (.inl rfl)
  · rename_i hu
    split at k5
    · rename_i s
      split at k5
      · cases k5
      · rename_i hmx
        obtain ⟨⟨l, hh, m⟩, q2, k6⟩ := bok k5
        cases k6
        rw [hxv.string_inv] at hxe
        obtain ⟨m', r1, _⟩ := run_bounds (P := P) (ρ := ρ) (mx' := none) q2 o1 o2 (by trivial) (Nat.le_refl s.size) false W
        have hmn : mx = none := by
          cases mx with
          | none => rfl
          | some z => obtain ⟨w, e1, e2⟩ := bok k4; cases e2; simp at hmx
        subst hmn
        refine .same h (v' := .string (s.extract l hh)) ?_ (.string _)
        simp only [execOp, Instr.sliceAt, hxe, Sem.run_bind, run_underlying' hu, Result.andThen, Instr.slice, Option.map_none, Option.isSome_none, Bool.false_eq_true, if_false, Sem.run_pure, r1]
    · cases k5
  · rename_i elem hu
    split at k5
    · obtain ⟨⟨l, hh, m⟩, q2, k6⟩ := bok k5
      clear k5
      obtain ⟨size, q3, k7⟩ := bok k6
      cases k7
      cases hxv with
      | sliceNil =>
        obtain ⟨m', r1, r2, r3, r4⟩ := run_bounds (P := P) q2 o1 o2 o3 (Nat.le_refl 0) true W
        have e1 : m' = 0 := by omega
        have e2 : l = 0 := by omega
        have e3 : hh = 0 := by omega
        subst e1; subst e2; subst e3
        refine .same h (v' := .slice none 0 0) ?_ .sliceNil
        simp only [execOp, Instr.sliceAt, hxe, Sem.run_bind, run_underlying' hu, Result.andThen, Instr.slice, r1, run_sizeOf' q3, Option.map_some, Sem.run_pure]
        simp
    · rename_i id off len cap
      obtain ⟨⟨l, hh, m⟩, q2, k6⟩ := bok k5
      clear k5
      obtain ⟨size, q3, k7⟩ := bok k6
      clear k6
      obtain ⟨r0, q4, k8⟩ := bok k7
      clear k7
      split at k8
      case isFalse => cases k8
      rename_i hes
      cases k8
      have hr := AH.row_ok q4
      obtain ⟨pl, hp, _, hor⟩ := h.obj id _ hr
      have hesz : pl.esz = size ∨ pl.esz = 0 := by rw [← hor.1]; exact hes
      cases hxv with
      | slice hp' hc =>
        rename_i c' pl'
        rw [hp] at hp'; cases hp'
        have hcc : cap ≤ c' := by rcases hc with rfl | ⟨_, hc, _⟩ <;> omega
        obtain ⟨m', r1, r2, r3, r4⟩ := run_bounds (P := P) q2 o1 o2 o3 hcc true W
        refine .same h (v' := _) ?_ (slice_rel hp hc hesz r2 r3 r4)
        simp only [execOp, Instr.sliceAt, hxe, Sem.run_bind, run_underlying' hu, Result.andThen, Instr.slice, r1, run_sizeOf' q3, Option.map_some, Sem.run_pure]
        by_cases e : m' = l
        · simp [e]
        · simp [e]
      | sliceEnd =>
        rename_i a'
        obtain ⟨m', r1, r2, r3, r4⟩ := run_bounds (P := P) q2 o1 o2 o3 (Nat.le_refl 0) true W
        have e1 : m' = 0 := by omega
        have e2 : l = 0 := by omega
        have e3 : hh = 0 := by omega
        have e4 : m = 0 := by omega
        subst e1; subst e2; subst e3; subst e4
        refine .same h (v' := .slice (some a') 0 0) ?_ (by simpa using VR.sliceEnd)
        simp only [execOp, Instr.sliceAt, hxe, Sem.run_bind, run_underlying' hu, Result.andThen, Instr.slice, r1, run_sizeOf' q3, Option.map_some, Sem.run_pure]
        simp
    · cases k5
  · cases k5

end ops
end
end Go.Eng
