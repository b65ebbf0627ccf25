/-
  Operations of the abstract machine go along with those of the model: slices, conversions, append, copy.
-/
import Derived.Test.YtbcgpjfjfnnlcaaE6
set_option linter.unusedSimpArgs false
namespace Go.Eng
noncomputable section
variable {P : Program}

def OVR (ρ : Ren) (x x' : Option Value) : Prop := match x, x' with
  | none, none => True
  | some v, some v' => VR ρ v v'
  | _, _ => False

theorem optIn_none {most other n : Nat} (h : optIn none most other = .ok n) : n = other := by cases h; rfl

theorem run_sliceBound {ρ : Ren} {v v' : Value} {most n : Nat} (h : natIn v most = .ok n) (hv : VR ρ v v') (y : Nat) (hy : most ≤ y) (code : BoundsCode) (w : World) : (Instr.sliceBound v' y code).run P w = .ok n w := by
  obtain ⟨k, i, rfl, h1, h2, rfl, _⟩ := natIn_ok h
  rw [hv.int_inv]
  have : 0 ≤ i ∧ i ≤ (y : Int) := ⟨h1, by omega⟩
  simp [Instr.sliceBound, asIntOf, Result.andThen, this]

/-- the bounds of a slice: the capacity may be greater on the given side, if no third bound is named -/
theorem run_bounds {ρ : Ren} {lo lo' hi hi' mx mx' : Option Value} {len c c' l h m : Nat} (hb : aBounds len c lo hi mx = .ok (l, h, m)) (h1 : OVR ρ lo lo') (h2 : OVR ρ hi hi') (h3 : OVR ρ mx mx') (hc : c ≤ c') (s : Bool) (w : World) :
    ∃ m', (Instr.sliceBounds s len c' lo' hi' mx').run P w = .ok (l, h, m') w ∧ l ≤ h ∧ h ≤ m ∧ ((m = c ∧ m' = c') ∨ (m' = m ∧ m ≤ c)) := by
  unfold aBounds at hb
  obtain ⟨m0, b1, b2⟩ := bok hb
  split at b2
  · cases b2
  rename_i hnn
  obtain ⟨h0, b3, b4⟩ := bok b2
  obtain ⟨l0, b5, b6⟩ := bok b4
  split at b6
  case isFalse => cases b6
  rename_i hle
  cases b6
  have lowrun : ∀ code, (match lo' with | some v => Instr.sliceBound v h code | none => pure 0 : Sem Nat).run P w = .ok l w := fun code => by
    cases lo with
    | none => cases lo' with
      | none => rw [optIn_none b5]; rfl
      | some _ => exact h1.elim
    | some v => cases lo' with
      | none => exact h1.elim
      | some v' => exact run_sliceBound b5 h1 _ (Nat.le_refl _) _ w
  cases mx with
  | none =>
    cases mx' with
    | some _ => exact h3.elim
    | none =>
      have := optIn_none b1; subst this
      refine ⟨c', ?_, hle.1, hle.2, .inl ⟨rfl, rfl⟩⟩
      have hirun : ∀ code, (match hi' with | some v => Instr.sliceBound v c' code | none => pure len : Sem Nat).run P w = .ok h w := fun code => by
        cases hi with
        | none => cases hi' with
          | none => rw [optIn_none b3]; rfl
          | some _ => exact h2.elim
        | some v => cases hi' with
          | none => exact h2.elim
          | some v' => exact run_sliceBound b3 h2 _ hc _ w
      unfold Instr.sliceBounds
      simp only [Sem.run_bind, Sem.run_pure, Result.andThen]
      have e1 := hirun (if s then .sliceAcap else .sliceAlen)
      have e2 := lowrun .sliceB
      cases hi' with
      | none =>
        simp only [Sem.run_pure] at e1
        cases e1
        simp only [Sem.run_pure]
        cases lo' with
        | none => simp only [Sem.run_pure] at e2; cases e2; simp
        | some v' =>
          have e2' : (Instr.sliceBound v' len .sliceB).run P w = .ok l w := e2
          simp [e2']
      | some u =>
        have e1' : (Instr.sliceBound u c' (if s then .sliceAcap else .sliceAlen)).run P w = .ok h w := e1
        simp only [e1', Result.andThen, Sem.run_bind]
        cases lo' with
        | none => simp only [Sem.run_pure] at e2; cases e2; simp
        | some v' =>
          have e2' : (Instr.sliceBound v' h .sliceB).run P w = .ok l w := e2
          simp [e2']
  | some mv =>
    cases mx' with
    | none => exact h3.elim
    | some mv' =>
      cases hi with
      | none => simp at hnn
      | some hv => cases hi' with
        | none => exact h2.elim
        | some hv' =>
          have hmle : m ≤ c := by obtain ⟨_, _, _, _, _, _, q⟩ := natIn_ok b1; exact q
          refine ⟨m, ?_, hle.1, hle.2, .inr ⟨rfl, hmle⟩⟩
          have e0 := run_sliceBound (P := P) b1 h3 c' hc (if s then .slice3Acap else .slice3Alen) w
          have e1 := run_sliceBound (P := P) b3 h2 m (Nat.le_refl _) .slice3B w
          have e2 := lowrun .slice3C
          unfold Instr.sliceBounds
          simp only [Sem.run_bind, e0, e1, Result.andThen]
          cases lo' with
          | none => simp only [Sem.run_pure] at e2; cases e2; simp
          | some v' =>
            have e2' : (Instr.sliceBound v' h .slice3C).run P w = .ok l w := e2
            simp [e2']

section ops
variable {a : AAct} {ca : Act} {ρ : Ren} {H H' : AH} {W : World} {v : Value} {rec : Rec} {d : Option Tmp} {ty : TypeId} {ps : String} {af : Array Edge} {gu : Option (Nat × Bool)}

theorem slice_rel {id off size l h m m' c c' : Nat} {pl : Pl} (hp : ρ id = some pl) (hc : c' = c ∨ (pl.esz ≠ 0 ∧ c ≤ c' ∧ off + c' * pl.esz ≤ pl.ext)) (hsz : pl.esz = size ∨ pl.esz = 0) (hlh : l ≤ h) (hhm : h ≤ m)
    (hm : (m = c ∧ m' = c') ∨ (m' = m ∧ m ≤ c)) :
    VR ρ (.slice (some ⟨id, off + l * size, none⟩) (h - l) (m - l)) (.slice (some (if m' = l then ⟨pl.blk, pl.base + off, none⟩ else (⟨pl.blk, pl.base + off, none⟩ : Addr).add (l * size))) (h - l) (m' - l)) := by
  by_cases e : m' = l
  · have : m = l ∧ h = l := by
      rcases hm with ⟨rfl, rfl⟩ | ⟨rfl, _⟩
      · rcases hc with rfl | ⟨_, hc, _⟩ <;> omega
      · omega
    obtain ⟨rfl, rfl⟩ := this
    rw [if_pos e, e]
    simp only [Nat.sub_self]
    exact .sliceEnd
  · rw [if_neg e, addr_add, Nat.add_assoc]
    refine .slice hp ?_
    rcases hm with ⟨rfl, rfl⟩ | ⟨rfl, _⟩
    · rcases hc with rfl | ⟨h1, h2, h3⟩
      · exact .inl rfl
      · refine .inr ⟨h1, by omega, ?_⟩
        have : pl.esz = size := by rcases hsz with h | h; exact h; exact absurd h h1
        subst this
        have hle : l ≤ m' := by omega
        obtain ⟨k, rfl⟩ : ∃ k, m' = l + k := ⟨m' - l, by omega⟩
        rw [Nat.add_sub_cancel_left]
        rw [Nat.add_mul] at h3
        omega
    · exact .inl rfl

theorem sim_slice {t : TypeId} {x : Operand} {lo hi mx : Option Operand} (h : Rel ρ H W) (hx : OpE a ca ρ x) (h1 : ∀ y, lo = some y → OpE a ca ρ y) (h2 : ∀ y, hi = some y → OpE a ca ρ y) (h3 : ∀ y, mx = some y → OpE a ca ρ y)
    (ho : aOp P rec a H ⟨d, .slice t x lo hi mx, ty, ps, af, gu⟩ = .ok (v, H')) : Sim1 P ⟨d, .slice t x lo hi mx, ty, ps, af, gu⟩ ρ H W ca v H' := by
  simp only [aOp] at ho
  obtain ⟨u, k1, ho1⟩ := bok ho
  clear ho
  obtain ⟨lov, k2, ho2⟩ := bok ho1
  clear ho1
  obtain ⟨hiv, k3, ho3⟩ := bok ho2
  clear ho2
  obtain ⟨mxv, k4, ho4⟩ := bok ho3
  clear ho3
  obtain ⟨r, k5, ho5⟩ := bok ho4
  clear ho4
  cases ho5
  have ov : ∀ (y : Option Operand) (yv : Option Value), (∀ z, y = some z → OpE a ca ρ z) → (match y with | some z => do let __do_lift ← a.eval z; Except.ok (some __do_lift) | none => Except.ok none : R (Option Value)) = .ok yv → OVR ρ yv (y.map ca.eval) := fun y yv hy e => by
    cases y with
    | none => cases e; trivial
    | some z => obtain ⟨w, e1, e2⟩ := bok e; cases e2; exact hy z rfl _ e1
  have o1 := ov lo lov h1 k2
  have o2 := ov hi hiv h2 k3
  have o3 := ov mx mxv h3 k4
  have hxv := hx _ k1
  obtain ⟨xv, hxe⟩ : ∃ xv, ca.eval x = xv := ⟨_, rfl⟩
  rw [hxe] at hxv
  unfold aSlice at k5
  split at k5
  · rename_i n elem hu
    obtain ⟨⟨id, off⟩, q1, k6⟩ := bok k5
    clear k5
    obtain ⟨⟨l, hh, m⟩, q2, k7⟩ := bok k6
    clear k6
    obtain ⟨size, q3, k8⟩ := bok k7
    cases k8
    cases addrOf_ok q1
    obtain ⟨pl, hp, rfl⟩ := hxv.at
    obtain ⟨m', r1, r2, r3, r4⟩ := run_bounds (P := P) q2 o1 o2 o3 (Nat.le_refl n) false W
    have hmm : m' = m := by rcases r4 with ⟨e1, e2⟩ | ⟨e1, _⟩ <;> omega
    subst hmm
    refine .same h (v' := _) (by simp only [execOp, Instr.sliceAt, hxe, Sem.run_bind, run_underlying' hu, Result.andThen, Instr.sureAddr, Sem.run_pure, r1, run_sizeOf' q3]; rfl) ?_
    by_cases e : m' = l
    · have : hh = l := by omega
      rw [if_pos e]
      simp only [e, this, Nat.sub_self]
      exact .sliceEnd
    · rw [if_neg e, addr_add, Nat.add_assoc]
      exact .slice hp (.inl rfl)
  · rename_i hu
    split at k5
    · rename_i s
      split at k5
      · cases k5
      · rename_i hmx
        obtain ⟨⟨l, hh, m⟩, q2, k6⟩ := bok k5
        cases k6
        rw [hxv.string_inv] at hxe
        obtain ⟨m', r1, _⟩ := run_bounds (P := P) (ρ := ρ) (mx' := none) q2 o1 o2 (by trivial) (Nat.le_refl s.size) false W
        have hmn : mx = none := by
          cases mx with
          | none => rfl
          | some z => obtain ⟨w, e1, e2⟩ := bok k4; cases e2; simp at hmx
        subst hmn
        refine .same h (v' := .string (s.extract l hh)) ?_ (.string _)
        simp only [execOp, Instr.sliceAt, hxe, Sem.run_bind, run_underlying' hu, Result.andThen, Instr.slice, Option.map_none, Option.isSome_none, Bool.false_eq_true, if_false, Sem.run_pure, r1]
    · cases k5
  · rename_i elem hu
    split at k5
    · obtain ⟨⟨l, hh, m⟩, q2, k6⟩ := bok k5
      clear k5
      obtain ⟨size, q3, k7⟩ := bok k6
      cases k7
      cases hxv with
      | sliceNil =>
        obtain ⟨m', r1, r2, r3, r4⟩ := run_bounds (P := P) q2 o1 o2 o3 (Nat.le_refl 0) true W
        have e1 : m' = 0 := by omega
        have e2 : l = 0 := by omega
        have e3 : hh = 0 := by omega
        subst e1; subst e2; subst e3
        refine .same h (v' := .slice none 0 0) ?_ .sliceNil
        simp only [execOp, Instr.sliceAt, hxe, Sem.run_bind, run_underlying' hu, Result.andThen, Instr.slice, r1, run_sizeOf' q3, Option.map_some, Sem.run_pure]
        simp
    · rename_i id off len cap
      obtain ⟨⟨l, hh, m⟩, q2, k6⟩ := bok k5
      clear k5
      obtain ⟨size, q3, k7⟩ := bok k6
      clear k6
      obtain ⟨r0, q4, k8⟩ := bok k7
      clear k7
      split at k8
      case isFalse => cases k8
      rename_i hes
      cases k8
      have hr := AH.row_ok q4
      obtain ⟨pl, hp, _, hor⟩ := h.obj id _ hr
      have hesz : pl.esz = size ∨ pl.esz = 0 := by rw [← hor.1]; exact hes
      cases hxv with
      | slice hp' hc =>
        rename_i c' pl'
        rw [hp] at hp'; cases hp'
        have hcc : cap ≤ c' := by rcases hc with rfl | ⟨_, hc, _⟩ <;> omega
        obtain ⟨m', r1, r2, r3, r4⟩ := run_bounds (P := P) q2 o1 o2 o3 hcc true W
        refine .same h (v' := _) ?_ (slice_rel hp hc hesz r2 r3 r4)
        simp only [execOp, Instr.sliceAt, hxe, Sem.run_bind, run_underlying' hu, Result.andThen, Instr.slice, r1, run_sizeOf' q3, Option.map_some, Sem.run_pure]
        by_cases e : m' = l
        · simp [e]
        · simp [e]
      | sliceEnd =>
        rename_i a'
        obtain ⟨m', r1, r2, r3, r4⟩ := run_bounds (P := P) q2 o1 o2 o3 (Nat.le_refl 0) true W
        have e1 : m' = 0 := by omega
        have e2 : l = 0 := by omega
        have e3 : hh = 0 := by omega
        have e4 : m = 0 := by omega
        subst e1; subst e2; subst e3; subst e4
        refine .same h (v' := .slice (some a') 0 0) ?_ (by simpa using VR.sliceEnd)
        simp only [execOp, Instr.sliceAt, hxe, Sem.run_bind, run_underlying' hu, Result.andThen, Instr.slice, r1, run_sizeOf' q3, Option.map_some, Sem.run_pure]
        simp
    · cases k5
  · cases k5

end ops
end
end Go.Eng
/-
  Operations of the abstract machine go along with those of the model: conversions, append, copy, len.
-/
namespace Go.Eng
noncomputable section
variable {P : Program}

theorem bytesOf_cons {v : Value} {l : List Value} {bs : List UInt8} (h : bytesOf (v :: l) = .ok bs) : ∃ n cs, v = .int .u8 n ∧ bytesOf l = .ok cs ∧ bs = UInt8.ofNat n.toNat :: cs := by
  unfold bytesOf at h
  split at h
  · rename_i e; cases e
  · rename_i n l' e
    cases e
    obtain ⟨cs, h1, h2⟩ := bok h
    cases h2
    exact ⟨n, cs, rfl, h1, rfl⟩
  · cases h

theorem bytesOf_ok (f : Value → ByteArray → Sem (ForInStep ByteArray)) (hf : ∀ n s w, (f (.int .u8 n) s).run P w = .ok (.yield (s.push (UInt8.ofNat n.toNat))) w) : ∀ {l : List Value} {bs : List UInt8}, bytesOf l = .ok bs → ∀ (acc : ByteArray) (w : World),
    (forIn l acc f : Sem ByteArray).run P w = .ok ⟨acc.data ++ bs.toArray⟩ w
  | [], bs, h, acc, w => by
    simp [bytesOf] at h; subst h
    simp
  | v :: l, bs, h, acc, w => by
    obtain ⟨n, cs, rfl, h1, rfl⟩ := bytesOf_cons h
    have := bytesOf_ok f hf h1 (acc.push (UInt8.ofNat n.toNat)) w
    simp only [List.forIn_cons, Sem.run_bind, hf, Result.andThen]
    rw [this]
    simp [ByteArray.push]

theorem bytes_rel {ρ : Ren} : ∀ {l l' : List Value} {bs : List UInt8}, bytesOf l = .ok bs → LR ρ l l' → l' = l
  | [], l', _, _, hl => hl.nil_inv
  | v :: l, l', bs, h, hl => by
    obtain ⟨v', m', rfl, hv, hm⟩ := hl.cons_inv
    obtain ⟨n, cs, rfl, h1, rfl⟩ := bytesOf_cons h
    rw [hv.int_inv, bytes_rel h1 hm]

theorem run_bytesToString {b o n : Nat} {c : Nat} {W : World} {vs : List Value} {bs : List UInt8} (hl : vs.length = n) (h : ∀ k, k < n → W.cell? ⟨b, o + k, none⟩ = vs[k]?) (hb : bytesOf vs = .ok bs) :
    (Conv.bytesToString (.slice (some ⟨b, o, none⟩) n c)).run P W = .ok (.string ⟨bs.toArray⟩) W := by
  unfold Conv.bytesToString
  simp only [Sem.run_bind, run_loadCells' hl h, Result.andThen]
  rw [← Array.forIn_toList]
  rw [bytesOf_ok _ (fun n s w => by rfl) hb]
  simp

theorem u8_all : ∀ l : List UInt8, (l.map u8v).all (gnd 0) = true
  | [] => rfl
  | b :: l => by simp only [List.map_cons, List.all_cons, u8_all l, Bool.and_true]; rfl

theorem run_markStringish (W : World) (cs : Array Value) (e : TypeId) :
    (markStringish ⟨W.heap.size, 0, none⟩).run P { W with heap := W.heap.push (.cells cs e) } = .ok () { W with heap := W.heap.push (.cells cs e (cs.size, cs.size + 1)) } := by
  have hs : ({ W with heap := W.heap.push (.cells cs e) } : World).shape? W.heap.size = some (e, cs.size) := by
    simp [World.shape?]
  unfold markStringish
  simp only [Sem.run_bind, run_shape, hs, Result.andThen, run_freeze]
  have : ({ W with heap := W.heap.push (.cells cs e) } : World).freeze ⟨W.heap.size, cs.size, none⟩ 1 = { W with heap := W.heap.push (.cells cs e (cs.size, cs.size + 1)) } := by
    unfold World.freeze
    rw [if_neg (by omega)]
    congr 1
    apply Array.ext
    · simp
    · intro i h1 h2
      rw [Array.getElem_modify]
      by_cases hi : W.heap.size = i
      · subst hi; simp
      · rw [if_neg hi]
        simp only [Array.size_modify, Array.size_push] at h1
        rw [Array.getElem_push_lt (by omega), Array.getElem_push_lt (by omega)]
  exact congrArg (Result.ok ()) this

theorem run_stringToBytes (e : TypeId) (s : ByteArray) (W : World) : ∃ cap, s.size ≤ cap ∧ (Conv.stringToBytes e s).run P W = .ok (.slice (some ⟨W.heap.size, 0, none⟩) s.size cap)
    { W with drawn := W.drawn + 1, heap := W.heap.push (.cells (s.data.toList.map u8v ++ List.replicate (cap - s.size) (Value.int .u8 0)).toArray e (cap, cap + 1)) } := by
  refine ⟨(Question.appendCap s.size 0 e).cut (W.tape W.drawn (.appendCap s.size 0 e)), by simp only [Question.cut]; omega, ?_⟩
  have hcl : s.size ≤ (Question.appendCap s.size 0 e).cut (W.tape W.drawn (.appendCap s.size 0 e)) := by simp only [Question.cut]; omega
  generalize hcap : (Question.appendCap s.size 0 e).cut (W.tape W.drawn (.appendCap s.size 0 e)) = cap at hcl ⊢
  have hsz : ((s.data.map u8v) ++ Array.replicate (cap - s.size) (Value.int .u8 0)) = ((s.data.toList.map u8v) ++ List.replicate (cap - s.size) (Value.int .u8 0)).toArray := by
    apply Array.ext'; simp
  have hlen : ((s.data.toList.map u8v) ++ List.replicate (cap - s.size) (Value.int .u8 0)).toArray.size = cap := by
    have : s.data.toList.length = s.size := by simp
    simp only [List.size_toArray, List.length_append, List.length_map, List.length_replicate, this]
    omega
  have hm := run_markStringish (P := P) { W with drawn := W.drawn + 1 } ((s.data.toList.map u8v) ++ List.replicate (cap - s.size) (Value.int .u8 0)).toArray e
  rw [hlen] at hm
  have hu : (fun b : UInt8 => Value.int .u8 b.toNat) = u8v := rfl
  simp only [Conv.stringToBytes, Sem.run_bind, run_choose, Question.forced, Bool.false_eq_true, if_false, hcap, Result.andThen, hu, hsz, run_newRow', hm, Sem.run_pure]

section ops
variable {a : AAct} {ca : Act} {ρ : Ren} {H H' : AH} {W : World} {v : Value} {rec : Rec} {d : Option Tmp} {ty : TypeId} {ps : String} {af : Array Edge} {gu : Option (Nat × Bool)}

theorem sim_convert {s t : TypeId} {x : Operand} (h : Rel ρ H W) (hx : OpE a ca ρ x) (ho : aOp P rec a H ⟨d, .convert s t x, ty, ps, af, gu⟩ = .ok (v, H')) : Sim1 P ⟨d, .convert s t x, ty, ps, af, gu⟩ ρ H W ca v H' := by
  simp only [aOp] at ho
  obtain ⟨u, k1, ho1⟩ := bok ho
  clear ho
  have hv := hx _ k1
  obtain ⟨xv, hxe⟩ : ∃ xv, ca.eval x = xv := ⟨_, rfl⟩
  rw [hxe] at hv
  have fin : ∀ v' W', (convert s t xv).run P W = .ok v' W' → (execOp ca.eval ⟨d, .convert s t x, ty, ps, af, gu⟩).run P W = .ok (.value v') W' := fun v' W' e => by
    simp only [execOp, hxe, Sem.run_bind, e, Result.andThen, Sem.run_pure]
  unfold aConvert at ho1
  split at ho1
  · split at ho1
    · rename_i e hs ht
      split at ho1
      · rename_i he
        cases ho1
        cases hv with
        | sliceNil =>
          refine .same h (v' := .string .empty) (fin _ _ ?_) (.string _)
          simp [convert, run_underlying' hs, run_underlying' ht, run_underlying' he, Result.andThen, Conv.bytesToString]
      · cases ho1
    · cases ho1
  · rename_i id off n c
    split at ho1
    · rename_i e hs ht
      split at ho1
      · rename_i he
        obtain ⟨cs, q1, ho2⟩ := bok ho1
        obtain ⟨bs, q2, ho3⟩ := bok ho2
        cases ho3
        have key : ∃ b o c', xv = .slice (some ⟨b, o, none⟩) n c' ∧ cs.length = n ∧ (∀ k, k < n → W.cell? ⟨b, o + k, none⟩ = cs[k]?) ∨ (n = 0 ∧ ∃ a', xv = .slice (some a') 0 0 ∧ cs = []) := by
          cases hv with
          | slice hp hc =>
            rename_i c' pl
            unfold readRow at q1
            by_cases hn : n = 0
            · rw [if_pos hn] at q1; cases q1
              exact ⟨_, _, _, .inl ⟨rfl, hn.symm, fun k hk => by omega⟩⟩
            · rw [if_neg hn] at q1
              obtain ⟨r, q3, q4⟩ := bok q1
              obtain ⟨vs', e1, e2, e3⟩ := read_row h (AH.row_ok q3) hp q4
              have := bytes_rel q2 e3
              subst this
              exact ⟨_, _, _, .inl ⟨rfl, e1, e2⟩⟩
          | sliceEnd =>
            unfold readRow at q1
            rw [if_pos rfl] at q1; cases q1
            exact ⟨0, 0, 0, .inr ⟨rfl, _, rfl, rfl⟩⟩
        obtain ⟨b, o, c', (⟨rfl, e1, e2⟩ | ⟨rfl, a', rfl, rfl⟩)⟩ := key
        · refine .same h (v' := .string ⟨bs.toArray⟩) (fin _ _ ?_) (.string _)
          simp [convert, run_underlying' hs, run_underlying' ht, run_underlying' he, Result.andThen, run_bytesToString e1 e2 q2]
        · refine .same h (v' := .string ⟨bs.toArray⟩) (fin _ _ ?_) (.string _)
          simp [bytesOf] at q2
          subst q2
          simp [convert, run_underlying' hs, run_underlying' ht, run_underlying' he, Result.andThen, Conv.bytesToString, loadCells, loadCellsFrom]
          rfl
      · cases ho1
    · rename_i e0 e hs ht
      split at ho1
      · rename_i he
        obtain ⟨r, q1, ho2⟩ := bok ho1
        split at ho2
        · cases ho2
        rename_i hro0
        have hro : r.ro = false := by simpa using hro0
        split at ho2
        · cases ho2
        rename_i hemp
        split at ho2
        · cases ho2
        rename_i hm0
        split at ho2
        · rename_i hsd
          obtain ⟨rfl, hn⟩ := hsd
          cases ho2
          obtain rfl : e0 = e := by rw [hs] at ht; cases ht; rfl
          cases hv with
          | slice hp hc =>
            rename_i c' pl
            have hr := AH.row_ok q1
            obtain ⟨p0, hp0, hlt, hor⟩ := h.obj _ _ hr
            rw [hp] at hp0; cases hp0
            have hlen : 0 < r.cells.length := by
              rcases Nat.eq_zero_or_pos r.cells.length with h' | h'
              · exact absurd (by rw [List.isEmpty_iff]; exact List.eq_nil_of_length_eq_zero h') hemp
              · exact h'
            obtain ⟨v0, w1, _, w3⟩ := hor.2.2.1 0 (by have := hor.2.1; omega)
            have hcell := w1
            unfold World.cell? at hcell
            split at hcell
            · rename_i cs ty f hblk
              have hblk' : W.heap[pl.blk]? = some (.cells cs ty f) := hblk
              have hsz : pl.base < cs.size := by
                simp at hcell
                rcases Nat.lt_or_ge pl.base cs.size with h' | h'
                · exact h'
                · rw [Array.getElem?_eq_none h'] at hcell; cases hcell
              obtain ⟨lo, hi⟩ := f
              have hfz := w3 hro
              unfold fz at hfz
              simp only [hblk', Bool.or_eq_false_iff, Bool.and_eq_false_iff, decide_eq_false_iff_not] at hfz
              have hlh : lo = hi ∨ cs.size ≤ lo := by omega
              obtain ⟨f', hf', hF⟩ : ∃ f' : Nat × Nat, (if (lo == hi) = true then (cs.size, cs.size + 1) else (min lo cs.size, max hi (cs.size + 1))) = f' ∧ f'.1 = cs.size := by
                refine ⟨_, rfl, ?_⟩
                by_cases h' : lo = hi
                · rw [if_pos (by simpa using h')]
                · rw [if_neg (by simpa using h')]
                  show min lo cs.size = cs.size
                  omega
              have hsh : W.shape? pl.blk = some (ty, cs.size) := by unfold World.shape?; rw [hblk']
              refine ⟨ρ, W.freeze ⟨pl.blk, cs.size, none⟩ 1, _, .inl (fin _ _ ?_), St.marked h hr hp hro (fun a b => hm0 (by rw [a]; simpa using b)) (f' := f') hblk' ?_ hF (fun b hb => ?_) ?_ rfl rfl rfl, .slice hp hc⟩
              · simp [convert, run_underlying' hs, run_underlying' he, Result.andThen, markStringish, hsh]
              · unfold World.freeze
                rw [if_neg (by decide)]
                simp only [Array.getElem?_modify, if_true, hblk', Option.map_some]
                rw [← hf']
                try exact if_pos trivial
              · unfold World.freeze
                rw [if_neg (by decide)]
                simp only [Array.getElem?_modify]
                rw [if_neg (Ne.symm hb)]
              · unfold World.freeze
                rw [if_neg (by decide)]
                simp
            · cases hcell
          | sliceEnd => exact absurd rfl hn
        · cases ho2
      · cases ho1
    · cases ho1
  · rename_i str
    split at ho1
    · rename_i e hs ht
      split at ho1
      · rename_i he
        obtain ⟨⟨id, H1⟩, q1, ho2⟩ := bok ho1
        cases ho2
        rw [hv.string_inv] at hxe fin
        obtain ⟨cap, hcl, hrun⟩ := run_stringToBytes (P := P) e str W
        have hl0 : str.data.toList.length = str.size := by simp
        refine sim_row' (cs' := str.data.toList.map u8v) (rest := List.replicate (cap - str.size) (Value.int .u8 0)) (W1 := W) (W' := { W with drawn := W.drawn + 1, heap := W.heap.push (.cells (str.data.toList.map u8v ++ List.replicate (cap - str.size) (Value.int .u8 0)).toArray e (cap, cap + 1)) }) (v' := .slice (some ⟨W.heap.size, 0, none⟩) str.size cap) h q1 (fr := (cap, cap + 1)) ?_ (fin _ _ ?_) rfl rfl rfl rfl rfl (gnd_list (n := 0) (u8_all _)) (fun ρ' _ hp => ?_)
        · refine ⟨fun _ => ?_, fun h2 => absurd h2 (by decide)⟩
          simp only [List.length_append, List.length_map, List.length_replicate, hl0]
          omega
        · simp only [convert, Sem.run_bind, run_underlying' hs, run_underlying' ht, run_underlying' he, Result.andThen]
          exact hrun
        · refine .slice (pl := ⟨W.heap.size, 0, 1, _⟩) hp (.inr ⟨by simp, hcl, ?_⟩)
          simp only [List.length_append, List.length_map, List.length_replicate, hl0]
          omega
      · cases ho1
    · obtain ⟨r, q1, ho2⟩ := bok ho1
      cases ho2
      obtain ⟨g1, g2⟩ := gOnly_ok q1
      rw [hv.string_inv] at fin
      exact .same h (v' := v) (fin _ _ (pureRun_ok _ g1 W)) (gnd_refl _ g2)
  · obtain ⟨r, q1, ho2⟩ := bok ho1
    cases ho2
    obtain ⟨g1, g2⟩ := gOnly_ok q1
    rw [hv.int_inv] at fin
    exact .same h (v' := v) (fin _ _ (pureRun_ok _ g1 W)) (gnd_refl _ g2)
  · cases ho1

theorem sim_buildSlice {t : TypeId} {n : Nat} {parts : Array (Nat × Operand)} (h : Rel ρ H W) (hx : ∀ p ∈ parts.toList, OpE a ca ρ p.2) (ho : aOp P rec a H ⟨d, .buildSlice t n parts, ty, ps, af, gu⟩ = .ok (v, H')) :
    Sim1 P ⟨d, .buildSlice t n parts, ty, ps, af, gu⟩ ρ H W ca v H' := by
  simp only [aOp] at ho
  split at ho
  · rename_i elem hu
    obtain ⟨qs, h1, ho1⟩ := bok ho
    clear ho
    obtain ⟨size, h2, ho2⟩ := bok ho1
    clear ho1
    split at ho2
    · cases ho2
    · rename_i hsm
      obtain ⟨zs, h3, ho3⟩ := bok ho2
      clear ho2
      split at ho3
      · rename_i cells hf
        obtain ⟨⟨id, H1⟩, h4, ho4⟩ := bok ho3
        cases ho4
        obtain ⟨z, z1, z2, z3, inf, z4, z5⟩ := run_zeroValue' h3 W
        have hsize : size = inf.size := by obtain ⟨i2, q1, q2⟩ := tSize_info h2; rw [z4] at q1; cases q1; exact q2.symm
        have hz : z.cells.size = size := by rw [hsize, ← z5, ← z2]; simp
        obtain ⟨k1, k2⟩ := parts_eval h1 hx
        have hg : ∀ m, (repeated zs m).all (gnd gd) = true := by
          intro m
          induction m with
          | zero => rfl
          | succ m ih => simp only [repeated, List.all_append, ih, z3, Bool.and_self]
        obtain ⟨r', f1, f2⟩ := fill_rel _ qs _ _ (repeated zs n).toArray cells k1 k2 (gnd_list (hg n)) hf
        refine sim_row (cs' := r'.toList) (rest := []) (W1 := W) (W' := { W with heap := W.heap.push (.cells r' elem) }) (v' := .slice (some ⟨W.heap.size, 0, none⟩) n n) h h4 ?_ rfl (by simp) rfl rfl rfl f2 (fun ρ' _ hp => ?_)
        · have hs1 : ¬ (n * size > 2 ^ 24) := hsm
          simp only [execOp, Instr.buildSlice, Sem.run_bind, run_underlying' hu, Result.andThen, run_sizeOf' h2, hs1, if_false]
          by_cases hn : n * size = 0
          · have e0 : ((Array.range 0).map fun x => (#[] : Array Value)[x % (#[] : Array Value).size]!) = (repeated zs n).toArray := by
              have : repeated zs n = [] := List.eq_nil_of_length_eq_zero (by rw [repeated_length, z5, ← hsize]; exact hn)
              rw [this]
              apply Array.eq_empty_of_size_eq_zero; simp
            simp only [hn, if_true, Sem.run_bind, Sem.run_pure, Result.andThen, e0, Array.toList_map, f1, run_newRow']
          · have e0 : ((Array.range (n * size)).map fun x => z.cells[x % z.cells.size]!) = (repeated zs n).toArray := by
              apply Array.ext'
              rw [← hz, zeros_eq, z2]
            simp only [hn, if_false, Sem.run_bind, Sem.run_pure, z1, Result.andThen, e0, Array.toList_map, f1, run_newRow']
        · exact .slice (pl := ⟨W.heap.size, 0, _, _⟩) hp (.inl rfl)
      · cases ho3
  · cases ho

end ops
end
end Go.Eng
