/-
  Operations of the abstract machine go along with those of the model.
-/
import Derived.Laws.StructEq
import Derived.Test.YtbcgpjfjfnnlcaaE4
namespace Go.Eng
noncomputable section
variable {P : Program}

/-- one operation, on both sides -/
def Sim1 (P : Program) (o : Oper) (ρ : Ren) (H : AH) (W : World) (ca : Act) (v : Value) (H' : AH) : Prop :=
  ∃ ρ' W' v', ((execOp ca.eval o).run P W = .ok (.value v') W' ∨ ((execOp ca.eval o).run P W = .ok .skip W' ∧ v' = undef)) ∧ St ρ H W ρ' H' W' ∧ VR ρ' v v'

theorem Sim1.same {o : Oper} {ρ : Ren} {H : AH} {W : World} {ca : Act} {v v' : Value} (h : Rel ρ H W) (hr : (execOp ca.eval o).run P W = .ok (.value v') W) (hv : VR ρ v v') : Sim1 P o ρ H W ca v H :=
  ⟨ρ, W, v', .inl hr, St.refl h, hv⟩

theorem pureRun_ok {α : Type} : ∀ (n : Nat) {s : Sem α} {a : α}, pureRun P n s = .ok a → ∀ w, s.run P w = .ok a w := by
  intro n
  induction n with
  | zero =>
    intro s a h w
    cases s <;> simp [pureRun] at h
    subst h; rfl
  | succ n ih =>
    intro s a h w
    cases s <;> simp [pureRun] at h
    · subst h; rfl
    · exact ih h w

abbrev OpE (a : AAct) (ca : Act) (ρ : Ren) (x : Operand) : Prop := ∀ u, a.eval x = .ok u → VR ρ u (ca.eval x)

theorem VR.bool_inv {ρ : Ren} {b : Bool} {v' : Value} (h : VR ρ (.bool b) v') : v' = .bool b := by cases h; rfl
theorem VR.int_inv {ρ : Ren} {k : IntKind} {n : Int} {v' : Value} (h : VR ρ (.int k n) v') : v' = .int k n := by cases h; rfl
theorem VR.string_inv {ρ : Ren} {s : ByteArray} {v' : Value} (h : VR ρ (.string s) v') : v' = .string s := by cases h; rfl

theorem VR.nilness {ρ : Ren} {v v' : Value} (h : VR ρ v v') : nilness v' = nilness v := by cases h <;> rfl
theorem VR.nilFits {ρ : Ren} {v v' : Value} (h : VR ρ v v') (t : TypeId) : nilFits P t v' = nilFits P t v := by cases h <;> rfl

theorem eq_ptr {t e : TypeId} (hu : P.underlying t = some (.pointer e)) (d : Nat) (a b : Option Addr) (h : (a.isNone || b.isNone) = true) (w : World) :
    (Op.equalIn (d + 1) t (.pointer a) (.pointer b)).run P w = .ok (a.isNone && b.isNone) w := by
  cases a <;> cases b <;> simp at h <;> simp [Op.equalIn, run_underlying' hu, Result.andThen]

theorem eq_slice {t e : TypeId} (hu : P.underlying t = some (.slice e)) (d : Nat) (a b : Option Addr) (n c m k : Nat) (h : (a.isNone || b.isNone) = true) (w : World) :
    (Op.equalIn (d + 1) t (.slice a n c) (.slice b m k)).run P w = .ok (a.isNone && b.isNone) w := by
  cases a <;> cases b <;> simp at h <;> simp [Op.equalIn, run_underlying' hu, Result.andThen]

theorem eq_map {t x e : TypeId} (hu : P.underlying t = some (.map x e)) (d : Nat) (a b : Option Nat) (h : (a.isNone || b.isNone) = true) (w : World) :
    (Op.equalIn (d + 1) t (.map a) (.map b)).run P w = .ok (a.isNone && b.isNone) w := by
  cases a <;> cases b <;> simp at h <;> simp [Op.equalIn, run_underlying' hu, Result.andThen]

def isNilFunc : Value → Bool
  | .nilFunc => true
  | _ => false

theorem eq_func {t : TypeId} {x y : Array TypeId} {z : Bool} (hu : P.underlying t = some (.func x y z)) (d : Nat) (a b : Value) (ha : a = .nilFunc ∨ ∃ f g k, a = .func f g k) (hb : b = .nilFunc ∨ ∃ f g k, b = .func f g k)
    (h : (isNilFunc a || isNilFunc b) = true) (w : World) :
    (Op.equalIn (d + 1) t a b).run P w = .ok (isNilFunc a && isNilFunc b) w := by
  rcases ha with rfl | ⟨f, g, k, rfl⟩ <;> rcases hb with rfl | ⟨f', g', k', rfl⟩ <;> simp [isNilFunc] at h <;> simp [isNilFunc, Op.equalIn, run_underlying' hu, Result.andThen]

theorem nil_eq {t : TypeId} {a b : Value} {na nb : Bool} (ha : nilness a = some na) (hb : nilness b = some nb) (hor : (na || nb) = true) (fa : nilFits P t a = true) (fb : nilFits P t b = true) (w : World) :
    (Op.equal t a b).run P w = .ok (na && nb) w := by
  cases a <;> simp only [nilFits] at fa <;> first | (cases fa; done) | skip
  · split at fa
    · rename_i x _ e hu
      cases b <;> simp only [nilFits, hu] at fb <;> first | (cases fb; done) | skip
      rename_i y
      have e1 : na = x.isNone := by cases x <;> simp [nilness] at ha <;> simp [ha]
      have e2 : nb = y.isNone := by cases y <;> simp [nilness] at hb <;> simp [hb]
      subst e1; subst e2
      exact eq_ptr hu 9999 x y hor w
    · cases fa
  · split at fa
    · rename_i x n c _ e hu
      cases b <;> simp only [nilFits, hu] at fb <;> first | (cases fb; done) | skip
      rename_i y m k
      have e1 : na = x.isNone := by cases x <;> simp [nilness] at ha <;> simp [ha]
      have e2 : nb = y.isNone := by cases y <;> simp [nilness] at hb <;> simp [hb]
      subst e1; subst e2
      exact eq_slice hu 9999 x y _ _ _ _ hor w
    · cases fa
  · split at fa
    · rename_i x _ e e' hu
      cases b <;> simp only [nilFits, hu] at fb <;> first | (cases fb; done) | skip
      rename_i y
      have e1 : na = x.isNone := by cases x <;> simp [nilness] at ha <;> simp [ha]
      have e2 : nb = y.isNone := by cases y <;> simp [nilness] at hb <;> simp [hb]
      subst e1; subst e2
      exact eq_map hu 9999 x y hor w
    · cases fa
  · split at fa
    · rename_i hu
      simp [nilness] at ha; subst ha
      cases b <;> simp only [nilFits, hu] at fb <;> first | (cases fb; done) | skip
      · simp [nilness] at hb; subst hb
        exact eq_func hu 9999 _ _ (.inr ⟨_, _, _, rfl⟩) (.inr ⟨_, _, _, rfl⟩) hor w
      · simp [nilness] at hb; subst hb
        exact eq_func hu 9999 _ _ (.inr ⟨_, _, _, rfl⟩) (.inl rfl) hor w
    · cases fa
  · split at fa
    · rename_i hu
      simp [nilness] at ha; subst ha
      cases b <;> simp only [nilFits, hu] at fb <;> first | (cases fb; done) | skip
      · simp [nilness] at hb; subst hb
        exact eq_func hu 9999 _ _ (.inl rfl) (.inr ⟨_, _, _, rfl⟩) hor w
      · simp [nilness] at hb; subst hb
        exact eq_func hu 9999 _ _ (.inl rfl) (.inl rfl) hor w
    · cases fa

theorem nil_bin {t : TypeId} {a b : Value} {na nb : Bool} (ha : nilness a = some na) (hb : nilness b = some nb) (hor : (na || nb) = true) (fa : nilFits P t a = true) (fb : nilFits P t b = true) (w : World) :
    (binOp .eql t a b).run P w = .ok (.bool (na && nb)) w ∧ (binOp .neq t a b).run P w = .ok (.bool (!(na && nb))) w := by
  have key := nil_eq ha hb hor fa fb w
  cases a <;> simp only [nilFits] at fa <;> first | (cases fa; done) | skip
  all_goals (cases b <;> simp only [nilFits] at fb <;> first | (cases fb; done) | skip)
  all_goals (first | (refine ⟨?_, ?_⟩ <;> simp only [binOp, Sem.run_bind, key, Result.andThen, Sem.run_pure]; done) | skip)
  all_goals (exfalso; split at fa <;> first | (cases fa; done) | skip)
  all_goals (rename_i hu; simp [hu] at fb)

theorem gOnly_ok {x : R Value} {v : Value} (h : gOnly x = .ok v) : x = .ok v ∧ gnd gd v = true := by
  unfold gOnly at h
  split at h
  · split at h
    · cases h; exact ⟨rfl, by assumption⟩
    · cases h
  · cases h

theorem eqF_run {d : Nat} {xs ys : Array Value} {w : World} : ∀ {fs : List Field} {r : Bool}, eqF P xs.toList ys.toList fs = .ok r → (Op.eqFields (d + 1) xs ys fs).run P w = .ok r w
  | [], r, h => by simp only [eqF] at h; cases h; rfl
  | f :: fs, r, h => by
    simp only [eqF] at h
    split at h
    · cases h
    rename_i hn
    obtain ⟨b, h1, h2⟩ := bok h
    clear h
    have hagg := run_isAgg' h1 w
    cases b with
    | true => simp only [if_true] at h2; cases h2
    | false =>
      simp only [Bool.false_eq_true, if_false] at h2
      have hne : f.name ≠ "_" := by simpa using hn
      have hpart : ∀ (cs : Array Value) (v : Value), cs.toList[f.offset]? = some v → (part f.type cs f.offset).run P w = .ok v w := fun cs v hv => by
        have : cs[f.offset]? = some v := by rw [← hv]; simp
        simp [part, hagg, Result.andThen, this]
      have fin : ∀ (u v : Value) (e rr : Bool), xs.toList[f.offset]? = some u → ys.toList[f.offset]? = some v → (Op.equalIn (d + 1) f.type u v).run P w = .ok e w → eqF P xs.toList ys.toList fs = .ok rr → r = (e && rr) → (Op.eqFields (d + 1) xs ys (f :: fs)).run P w = .ok r w := by
        intro u v e rr hu hv he hr hrr
        have ih := eqF_run (d := d) (w := w) hr
        simp only [Op.eqFields, ne_eq, hne, not_false_eq_true, if_true, Sem.run_bind, hpart xs u hu, hpart ys v hv, Result.andThen, he]
        cases e with
        | true => simp only [Bool.not_true, Bool.false_eq_true, if_false, ih, hrr, Bool.true_and]
        | false => simp [hrr]
      split at h2
      · rename_i k1 m1 k2 n1 hu hx hy
        split at h2
        · rename_i hk
          subst hk
          obtain ⟨rr, h3, h4⟩ := bok h2
          cases h4
          exact fin _ _ (_ == _) rr hx hy (by simp [Op.equalIn, run_underlying' hu, Result.andThen]) h3 rfl
        · cases h2
      · rename_i p q hu hx hy
        obtain ⟨rr, h3, h4⟩ := bok h2
        cases h4
        exact fin _ _ (_ == _) rr hx hy (by simp [Op.equalIn, run_underlying' hu, Result.andThen]) h3 rfl
      · rename_i p q hu hx hy
        obtain ⟨rr, h3, h4⟩ := bok h2
        cases h4
        exact fin _ _ (_ == _) rr hx hy (by simp [Op.equalIn, run_underlying' hu, Result.andThen]) h3 rfl
      · cases h2

theorem aEq_run {op : BinOp} {t : TypeId} {x y : Operand} {a b v : Value} {w : World} (h : aEq P op t a b = .ok v) : (do eqGuard op t x y a b; binOp op t a b : Sem Value).run P w = .ok v w ∧ ∃ c, v = .bool c := by
  unfold aEq at h
  split at h
  · rename_i fs xs ys hu
    split at h
    · cases h
    rename_i hc
    simp only [Bool.or_eq_true, not_or, Bool.not_eq_true] at hc
    obtain ⟨r, h1, h2⟩ := bok h
    have hf : P.fieldsOf t = fs := by unfold Program.fieldsOf; rw [hu]
    have he : (Op.equalIn 10000 t (.agg xs) (.agg ys)).run P w = .ok r w := by
      rw [run_equalIn_struct w 9999 t xs ys (by rw [hf]; exact hu) hc.1, hf]
      exact eqF_run (d := 9998) h1
    have hg := run_eqGuard_agg (P := P) w op t x y xs ys hc.2
    rw [Sem.run_bind, hg]
    simp only [Result.andThen]
    split at h2
    · cases h2; exact ⟨by rw [run_eql_struct, he]; rfl, _, rfl⟩
    · cases h2; exact ⟨by rw [run_neq_struct, he]; rfl, _, rfl⟩
    · cases h2
  · cases h

theorem bin_sim {ρ : Ren} {op : BinOp} {t : TypeId} {x y : Operand} {a b a' b' v : Value} (h : aBin P op t x y a b = .ok v) (ha : VR ρ a a') (hb : VR ρ b b') (w : World) :
    ∃ v', (do eqGuard op t x y a' b'; binOp op t a' b' : Sem Value).run P w = .ok v' w ∧ VR ρ v v' := by
  unfold aBin at h
  split at h
  · rw [ha.int_inv, hb.int_inv]
    obtain ⟨h1, h2⟩ := gOnly_ok h
    rename_i k n j m
    have e : (eqGuard op t x y (.int k n) (.int j m)).run P w = .ok () w := by cases op <;> rfl
    exact ⟨v, by rw [Sem.run_bind, e]; simp [Result.andThen, pureRun_ok _ h1 w], gnd_refl _ h2⟩
  · rw [ha.string_inv, hb.string_inv]
    obtain ⟨h1, h2⟩ := gOnly_ok h
    rename_i s s2
    have e : (eqGuard op t x y (.string s) (.string s2)).run P w = .ok () w := by cases op <;> rfl
    exact ⟨v, by rw [Sem.run_bind, e]; simp [Result.andThen, pureRun_ok _ h1 w], gnd_refl _ h2⟩
  · split at h
    · rename_i hg
      simp only [Bool.and_eq_true] at hg
      rw [gnd_eq _ hg.1 ha, gnd_eq _ hg.2 hb]
      split at h
      · rename_i v0 hv0
        cases h
        obtain ⟨k1, c, rfl⟩ := aEq_run (x := x) (y := y) (w := w) hv0
        exact ⟨_, k1, .bool c⟩
      · obtain ⟨h1, h2⟩ := gOnly_ok h
        exact ⟨v, pureRun_ok _ h1 w, gnd_refl _ h2⟩
    · split at h
      · rename_i na nb hna hnb
        split at h
        · rename_i hc
          simp only [Bool.and_eq_true] at hc
          have e : (eqGuard op t x y a' b').run P w = .ok () w := by
            have fa := hc.1.2
            have := hc.2
            cases ha <;> simp [nilFits] at fa <;> (cases hb <;> simp [nilFits] at this <;> (cases op <;> rfl))
          obtain ⟨k1, k2⟩ := nil_bin (P := P) (ha.nilness.trans hna) (hb.nilness.trans hnb) hc.1.1 ((ha.nilFits t).trans hc.1.2) ((hb.nilFits t).trans hc.2) w
          split at h
          · cases h; exact ⟨_, by rw [Sem.run_bind, e]; simp [Result.andThen, k1], .bool _⟩
          · cases h; exact ⟨_, by rw [Sem.run_bind, e]; simp [Result.andThen, k2], .bool _⟩
          · cases h
        · cases h
      · cases h

/-! ### The operations, one by one -/
section ops
variable {a : AAct} {ca : Act} {ρ : Ren} {H H' : AH} {W : World} {v : Value} {rec : Rec} {d : Option Tmp} {ty : TypeId} {ps : String} {af : Array Edge} {gu : Option (Nat × Bool)}

theorem sim_move {x : Operand} (h : Rel ρ H W) (hx : OpE a ca ρ x) (ho : aOp P rec a H ⟨d, .move x, ty, ps, af, gu⟩ = .ok (v, H')) : Sim1 P ⟨d, .move x, ty, ps, af, gu⟩ ρ H W ca v H' := by
  simp only [aOp] at ho
  obtain ⟨u, h1, h2⟩ := bok ho
  cases h2
  exact .same h rfl (hx _ h1)

theorem sim_assign {x : Operand} (h : Rel ρ H W) (hx : OpE a ca ρ x) (ho : aOp P rec a H ⟨d, .assign x, ty, ps, af, gu⟩ = .ok (v, H')) : Sim1 P ⟨d, .assign x, ty, ps, af, gu⟩ ρ H W ca v H' := by
  simp only [aOp] at ho
  obtain ⟨u, h1, h2⟩ := bok ho
  cases h2
  exact .same h rfl (hx _ h1)

theorem sim_pick {c x y : Operand} (h : Rel ρ H W) (hc : OpE a ca ρ c) (hx : OpE a ca ρ x) (hy : OpE a ca ρ y) (ho : aOp P rec a H ⟨d, .pick c x y, ty, ps, af, gu⟩ = .ok (v, H')) :
    Sim1 P ⟨d, .pick c x y, ty, ps, af, gu⟩ ρ H W ca v H' := by
  simp only [aOp] at ho
  obtain ⟨u, h1, h2⟩ := bok ho
  split at h2
  · rename_i b
    obtain ⟨w, h3, h4⟩ := bok h2
    cases h4
    have e := (hc _ h1).bool_inv
    cases b with
    | true => exact .same h (v' := ca.eval x) (by simp [execOp, e, asBool]) (hx _ h3)
    | false => exact .same h (v' := ca.eval y) (by simp [execOp, e, asBool]) (hy _ h3)
  · cases h2

theorem new_row_or {ρ' : Ren} {W' : World} {b : Nat} {cs cs' : List Value} {t : TypeId} {n1 n2 esz : Nat} (hb : ∃ fr, W'.heap[b]? = some (.cells cs'.toArray t fr) ∧ (fr.1 ≠ fr.2 → cs'.length ≤ fr.1) ∧ (2 ≤ esz → fr.1 = fr.2)) (hl : LR ρ' cs (cs'.take cs.length)) (hle : cs.length ≤ cs'.length) :
    OR ρ' W' ⟨b, 0, esz, cs'.length⟩ (.row { cells := cs.map some, ty := t, fam := n1, disp := n2, esz := esz, ro := false, solo := true }) := by
  obtain ⟨fr, hb, hz, hz2⟩ := hb
  refine ⟨rfl, by simpa using hle, fun j hj => ?_, fun _ h2 => (by have := hz2 h2; unfold mkd fz; simp only [hb]; simp [this])⟩
  have hj' : j < cs'.length := hj
  refine ⟨cs'[j], ?_, fun v hv => ?_, fun _ => ?_⟩
  · unfold World.cell?
    simp only [hb, Nat.zero_add]
    simp [hj']
  · change (cs.map some)[j]? = some (some v) at hv
    rw [List.getElem?_map] at hv
    cases hc : cs[j]? with
    | none => rw [hc] at hv; simp at hv
    | some u =>
      rw [hc] at hv
      simp at hv
      subst hv
      have hlt : j < cs.length := by
        rcases Nat.lt_or_ge j cs.length with h' | h'
        · exact h'
        · rw [List.getElem?_eq_none h'] at hc; cases hc
      exact hl.2 j _ _ hc (by rw [List.getElem?_take, if_pos hlt]; exact List.getElem?_eq_getElem hj')
  · obtain ⟨lo, hi⟩ := fr
    unfold fz
    simp only [hb, Nat.zero_add]
    have hz' : lo ≠ hi → cs'.length ≤ lo := hz
    simp only [Bool.or_eq_false_iff, Bool.and_eq_false_iff, decide_eq_false_iff_not, List.size_toArray, Option.isSome_none, true_or, and_true]
    omega

/-- a new row of known cells -/
theorem sim_row' {o : Oper} {t : TypeId} {esz id : Nat} {cs cs' rest : List Value} (h : Rel ρ H W) (hn : newRow H t esz (cs.map some) = .ok (id, H')) {W1 W' : World} {v' : Value} {fr : Nat × Nat}
    (hfz : (fr.1 ≠ fr.2 → (cs' ++ rest).length ≤ fr.1) ∧ (2 ≤ esz → fr.1 = fr.2))
    (hrun : (execOp ca.eval o).run P W = .ok (.value v') W') (h1 : W1.heap = W.heap) (h2 : W'.heap = W1.heap.push (.cells (cs' ++ rest).toArray t fr)) (ht : W'.tape = W.tape) (hos : W'.os = W.os) (hout : W'.output = W.output)
    (hl : LR ρ cs cs') (hv : ∀ ρ', ρ.le ρ' → ρ' id = some ⟨W.heap.size, 0, esz, (cs' ++ rest).length⟩ → VR ρ' v v') : Sim1 P o ρ H W ca v H' := by
  unfold newRow at hn
  have st := St.new (pl := ⟨W.heap.size, 0, esz, (cs' ++ rest).length⟩) (W' := W') h hn (.cells (cs' ++ rest).toArray t fr) (by rw [h2, h1]) ht hos hout rfl ?_
  · refine ⟨_, _, v', .inl hrun, st, hv _ st.le ?_⟩
    simp [Ren.with]
  · obtain ⟨rfl, _⟩ := AH.new_ok hn
    have hle := Ren.le_with h (⟨W.heap.size, 0, esz, (cs' ++ rest).length⟩ : Pl)
    refine new_row_or ⟨fr, by rw [h2, h1]; simp, hfz⟩ ?_ (by simp [hl.1])
    have : List.take cs.length (cs' ++ rest) = cs' := by rw [hl.1]; simp
    rw [this]
    exact hl.mono hle

theorem sim_row {o : Oper} {t : TypeId} {esz id : Nat} {cs cs' rest : List Value} (h : Rel ρ H W) (hn : newRow H t esz (cs.map some) = .ok (id, H')) {W1 W' : World} {v' : Value}
    (hrun : (execOp ca.eval o).run P W = .ok (.value v') W') (h1 : W1.heap = W.heap) (h2 : W'.heap = W1.heap.push (.cells (cs' ++ rest).toArray t (0, 0))) (ht : W'.tape = W.tape) (hos : W'.os = W.os) (hout : W'.output = W.output)
    (hl : LR ρ cs cs') (hv : ∀ ρ', ρ.le ρ' → ρ' id = some ⟨W.heap.size, 0, esz, (cs' ++ rest).length⟩ → VR ρ' v v') : Sim1 P o ρ H W ca v H' :=
  sim_row' h hn (fr := (0, 0)) ⟨fun h => (h rfl).elim, fun _ => rfl⟩ hrun h1 h2 ht hos hout hl hv

theorem run_newRow' (t : TypeId) (cs : Array Value) (w : World) : (Go.newRow t cs).run P w = .ok ⟨w.heap.size, 0, none⟩ { w with heap := w.heap.push (.cells cs t) } := rfl

theorem sim_alloc {t : TypeId} (h : Rel ρ H W) (ho : aOp P rec a H ⟨d, .alloc t, ty, ps, af, gu⟩ = .ok (v, H')) : Sim1 P ⟨d, .alloc t, ty, ps, af, gu⟩ ρ H W ca v H' := by
  simp only [aOp] at ho
  obtain ⟨zs, h1, h2⟩ := bok ho
  obtain ⟨⟨id, H1⟩, h3, h4⟩ := bok h2
  cases h4
  obtain ⟨z, z1, z2, z3, _⟩ := run_zeroValue' h1 W
  refine sim_row (cs' := zs) (rest := []) (W1 := W) (W' := { W with heap := W.heap.push (.cells z.cells t) }) (v' := .pointer (some ⟨W.heap.size, 0, none⟩)) h h3 ?_ rfl ?_ rfl rfl rfl (gnd_list z3) (fun ρ' _ hp => ?_)
  · simp only [execOp, Instr.alloc, Sem.run_bind, z1, Result.andThen, newVar, run_newRow', Sem.run_pure]
  · simp [← z2]
  · exact .ptr (pl := ⟨W.heap.size, 0, 0, (zs ++ []).length⟩) hp

theorem sim_box {t : TypeId} {x : Operand} (h : Rel ρ H W) (hx : OpE a ca ρ x) (ho : aOp P rec a H ⟨d, .box t x, ty, ps, af, gu⟩ = .ok (v, H')) : Sim1 P ⟨d, .box t x, ty, ps, af, gu⟩ ρ H W ca v H' := by
  simp only [aOp] at ho
  obtain ⟨u, h1, h2⟩ := bok ho
  obtain ⟨⟨id, H1⟩, h3, h4⟩ := bok h2
  cases h4
  refine sim_row (cs' := (ca.eval x).cells.toList) (rest := []) (W1 := W) (W' := { W with heap := W.heap.push (.cells (ca.eval x).cells t) }) (v' := .pointer (some ⟨W.heap.size, 0, none⟩)) h h3 ?_ rfl ?_ rfl rfl rfl (hx u h1).cells (fun ρ' _ hp => ?_)
  · simp only [execOp, Instr.box, Sem.run_bind, Result.andThen, newVar, run_newRow', Sem.run_pure]
  · simp
  · exact .ptr (pl := ⟨W.heap.size, 0, 0, _⟩) hp

theorem sim_load {t : TypeId} {x : Operand} (h : Rel ρ H W) (hx : OpE a ca ρ x) (ho : aOp P rec a H ⟨d, .load t x, ty, ps, af, gu⟩ = .ok (v, H')) : Sim1 P ⟨d, .load t x, ty, ps, af, gu⟩ ρ H W ca v H' := by
  simp only [aOp] at ho
  obtain ⟨u, h1, h2⟩ := bok ho
  obtain ⟨⟨id, off⟩, h3, h4⟩ := bok h2
  obtain ⟨w, h5, h6⟩ := bok h4
  cases h6
  cases addrOf_ok h3
  obtain ⟨pl, hp, e⟩ := (hx _ h1).at
  obtain ⟨v', k1, k2⟩ := run_loadVar' (P := P) h hp h5
  exact .same h (v' := v') (by simp [execOp, Instr.loadAt, Instr.sureAddr, e, Result.andThen, k1]) k2

theorem sim_store {t : TypeId} {x y : Operand} (h : Rel ρ H W) (hx : OpE a ca ρ x) (hy : OpE a ca ρ y) (ho : aOp P rec a H ⟨d, .store t x y, ty, ps, af, gu⟩ = .ok (v, H')) : Sim1 P ⟨d, .store t x y, ty, ps, af, gu⟩ ρ H W ca v H' := by
  simp only [aOp] at ho
  obtain ⟨u, h1, h2⟩ := bok ho
  obtain ⟨⟨id, off⟩, h3, h4⟩ := bok h2
  obtain ⟨w, h5, h6⟩ := bok h4
  obtain ⟨n, h7, h8⟩ := bok h6
  split at h8
  case isFalse => cases h8
  rename_i hs
  obtain ⟨H1, h9, h10⟩ := bok h8
  cases h10
  cases addrOf_ok h3
  obtain ⟨pl, hp, e⟩ := (hx _ h1).at
  have hl := (hy _ h5).cells
  obtain ⟨W', k1, k2⟩ := St.write (P := P) h h9 hp hl
  refine ⟨ρ, W', undef, .inr ⟨?_, rfl⟩, k2, VR.undef _⟩
  have hsz : (ca.eval y).cells.size = n := by have := hl.1; simp at this; omega
  simp [execOp, Instr.storeAt, Instr.sureAddr, e, Result.andThen, storeVar, run_sizeOf' h7 W, hsz, k1]

theorem sim_nilCheck {x : Operand} (h : Rel ρ H W) (hx : OpE a ca ρ x) (ho : aOp P rec a H ⟨d, .nilCheck x, ty, ps, af, gu⟩ = .ok (v, H')) : Sim1 P ⟨d, .nilCheck x, ty, ps, af, gu⟩ ρ H W ca v H' := by
  simp only [aOp] at ho
  obtain ⟨u, h1, h2⟩ := bok ho
  have hv := hx _ h1
  split at h2
  · cases h2
    obtain ⟨w, hw⟩ : ∃ w, ca.eval x = w := ⟨_, rfl⟩
    rw [hw] at hv
    cases hv with
    | ptr hp => exact .same h (v' := ca.eval x) (by simp [execOp, hw]) (by rw [hw]; exact .ptr hp)
  · cases h2
    obtain ⟨w, hw⟩ : ∃ w, ca.eval x = w := ⟨_, rfl⟩
    rw [hw] at hv
    cases hv with
    | func e1 e2 e3 e4 => exact .same h (v' := ca.eval x) (by simp [execOp, hw]) (by rw [hw]; exact .func e1 e2 e3 e4)
  · cases h2
    obtain ⟨w, hw⟩ : ∃ w, ca.eval x = w := ⟨_, rfl⟩
    rw [hw] at hv
    cases hv with
    | yield hp => exact .same h (v' := ca.eval x) (by simp [execOp, hw]) (by rw [hw]; exact .yield hp)
  · cases h2

theorem row_there {pl : Pl} {r : Row} (h : OR ρ W pl (.row r)) (he : r.cells.isEmpty = false) : ∃ c t f, W.heap[pl.blk]? = some (.cells c t f) ∧ 0 < c.size := by
  have hlen : 0 < r.cells.length := by
    rcases Nat.eq_zero_or_pos r.cells.length with h' | h'
    · rw [List.eq_nil_of_length_eq_zero h'] at he; cases he
    · exact h'
  obtain ⟨v0, w1, _⟩ := h.2.2.1 0 (by have := h.2.1; omega)
  unfold World.cell? at w1
  split at w1
  · rename_i cs ty f hblk
    refine ⟨cs, ty, f, hblk, ?_⟩
    simp at w1
    rcases Nat.eq_zero_or_pos cs.size with h' | h'
    · rw [Array.getElem?_eq_none (by omega)] at w1; cases w1
    · exact h'
  · cases w1
theorem mkd_eq {b : Nat} {c : Array Value} {t : TypeId} {f : Nat × Nat} (h : mkd W b = false) (hb : W.heap[b]? = some (.cells c t f)) : f.1 = f.2 := by
  obtain ⟨lo, hi⟩ := f
  unfold mkd fz at h
  simp only [hb, Option.isSome_some, Bool.true_and, Bool.or_eq_false_iff, decide_eq_false_iff_not] at h
  have := h.2
  show lo = hi
  omega
theorem same_other {w : World} {a b : Addr} {ca cb : Array Value} {ta tb : TypeId} {fa fb : Nat × Nat} (hne : a.block ≠ b.block) (ha : w.heap[a.block]? = some (.cells ca ta fa)) (hb : w.heap[b.block]? = some (.cells cb tb fb)) (sa : 0 < ca.size) (sb : 0 < cb.size)
    (hm : fa.1 = fa.2 ∨ fb.1 = fb.2) : (sameAddr a b).run P w = .ok false w := by
  obtain ⟨la, ha'⟩ := fa
  obtain ⟨lb, hb'⟩ := fb
  have h0 : ∀ c : Array Value, 0 < c.size → ¬ c.size = 0 := fun c h => by omega
  rcases hm with hm | hm
  · have hm : la = ha' := hm
    subst hm
    have hf : ∀ o : Nat, (decide (la ≤ o) && decide (o < la)) = false := fun o => by
      rw [Bool.and_eq_false_iff]; simp only [decide_eq_false_iff_not]; omega
    simp [sameAddr, hne, World.frozen?, ha, hb, noView, viewAt, World.shape?, mayBeOne, stringish, hf, h0 _ sa, h0 _ sb]
  · have hm : lb = hb' := hm
    subst hm
    have hf : ∀ o : Nat, (decide (lb ≤ o) && decide (o < lb)) = false := fun o => by
      rw [Bool.and_eq_false_iff]; simp only [decide_eq_false_iff_not]; omega
    simp [sameAddr, hne, World.frozen?, ha, hb, noView, viewAt, World.shape?, mayBeOne, stringish, hf, h0 _ sa, h0 _ sb]
theorem ptr_sim {op : BinOp} {t : TypeId} {x y : Operand} {a b a' b' v : Value} (hrel : Rel ρ H W) (h : aPtr P H op t a b = .ok v) (ha : VR ρ a a') (hb : VR ρ b b') :
    (do eqGuard op t x y a' b'; binOp op t a' b' : Sem Value).run P W = .ok v W := by
  unfold aPtr at h
  split at h
  · rename_i elem i oi j oj hu
    obtain ⟨n, h1, h2⟩ := bok h
    split at h2
    · cases h2
    rename_i hn
    split at h2
    · rename_i hij
      subst hij
      obtain ⟨pl, p1, rfl⟩ := ha.at
      obtain ⟨pl2, p2, rfl⟩ := hb.at
      rw [p1] at p2; cases p2
      have e : (eqGuard op t x y (.pointer (some ⟨pl.blk, pl.base + oi, none⟩)) (.pointer (some ⟨pl.blk, pl.base + oj, none⟩))).run P W = .ok () W := by cases op <;> rfl
      have heq : ((⟨pl.blk, pl.base + oi, none⟩ : Addr) == ⟨pl.blk, pl.base + oj, none⟩) = (oi == oj) := by
        by_cases ho : oi = oj
        · subst ho; simp
        · have : ¬ ((⟨pl.blk, pl.base + oi, none⟩ : Addr) = ⟨pl.blk, pl.base + oj, none⟩) := fun h => by injection h with e1 e2 e3; omega
          have h1 : ((⟨pl.blk, pl.base + oi, none⟩ : Addr) == ⟨pl.blk, pl.base + oj, none⟩) = false := beq_eq_false_iff_ne.2 this
          rw [h1]
          exact (beq_eq_false_iff_ne.2 ho).symm
      have key : (Op.equal t (.pointer (some ⟨pl.blk, pl.base + oi, none⟩)) (.pointer (some ⟨pl.blk, pl.base + oj, none⟩))).run P W = .ok (oi == oj) W := by
        have gen : ∀ d, (Op.equalIn (d + 1) t (.pointer (some ⟨pl.blk, pl.base + oi, none⟩)) (.pointer (some ⟨pl.blk, pl.base + oj, none⟩))).run P W = .ok (oi == oj) W := fun d => by
          simp only [Op.equalIn, Sem.run_bind, run_underlying' hu, Result.andThen, run_sizeOf' h1, ne_eq, hn, not_false_eq_true, sameAddr, beq_self_eq_true, if_true, heq, Sem.run_pure]
        exact gen 9999
      cases op <;> simp only at h2 <;> first | (cases h2; done) | skip
      · cases h2
        simp only [Sem.run_bind, e, Result.andThen, binOp, key, Sem.run_pure]
      · cases h2
        simp only [Sem.run_bind, e, Result.andThen, binOp, key, Sem.run_pure]
    · rename_i hij
      obtain ⟨pl, p1, rfl⟩ := ha.at
      obtain ⟨pl2, p2, rfl⟩ := hb.at
      split at h2
      · rename_i r r' hr hr'
        split at h2
        · cases h2
        rename_i hemp
        simp only [Bool.or_eq_true, not_or, Bool.not_eq_true] at hemp
        obtain ⟨pa, pa1, _, oa⟩ := hrel.obj i _ hr
        obtain ⟨pb, pb1, _, ob⟩ := hrel.obj j _ hr'
        rw [p1] at pa1; cases pa1
        rw [p2] at pb1; cases pb1
        have cellA : ∃ c t f, W.heap[pl.blk]? = some (.cells c t f) ∧ 0 < c.size := row_there oa hemp.1
        have cellB : ∃ c t f, W.heap[pl2.blk]? = some (.cells c t f) ∧ 0 < c.size := row_there ob hemp.2
        obtain ⟨ca, ta, fa, hca, sa⟩ := cellA
        obtain ⟨cb, tb, fb, hcb, sb⟩ := cellB
        have hblk : r.solo = true ∨ r'.solo = true → pl.blk ≠ pl2.blk := fun hs hb => by
          obtain ⟨ri, rj, e1, e2, _, _, s1, s2⟩ := hrel.share i j _ _ pl pl2 hr hr' hij p1 p2 hb
          cases e1; cases e2
          rcases hs with hs | hs
          · rw [s1] at hs; cases hs
          · rw [s2] at hs; cases hs
        have fin : pl.blk ≠ pl2.blk → fa.1 = fa.2 ∨ fb.1 = fb.2 → (match op with
            | .eql => (.ok (.bool false) : R Value)
            | .neq => .ok (.bool true)
            | _ => .error 351) = .ok v → (do eqGuard op t x y (.pointer (some ⟨pl.blk, pl.base + oi, none⟩)) (.pointer (some ⟨pl2.blk, pl2.base + oj, none⟩)); binOp op t (.pointer (some ⟨pl.blk, pl.base + oi, none⟩)) (.pointer (some ⟨pl2.blk, pl2.base + oj, none⟩)) : Sem Value).run P W = .ok v W := fun hb hm h2 => by
          have e : (eqGuard op t x y (.pointer (some ⟨pl.blk, pl.base + oi, none⟩)) (.pointer (some ⟨pl2.blk, pl2.base + oj, none⟩))).run P W = .ok () W := by cases op <;> rfl
          have hsame := same_other (P := P) (w := W) (a := ⟨pl.blk, pl.base + oi, none⟩) (b := ⟨pl2.blk, pl2.base + oj, none⟩) hb hca hcb sa sb hm
          have key : (Op.equal t (.pointer (some ⟨pl.blk, pl.base + oi, none⟩)) (.pointer (some ⟨pl2.blk, pl2.base + oj, none⟩))).run P W = .ok false W := by
            have gen : ∀ d, (Op.equalIn (d + 1) t (.pointer (some ⟨pl.blk, pl.base + oi, none⟩)) (.pointer (some ⟨pl2.blk, pl2.base + oj, none⟩))).run P W = .ok false W := fun d => by
              simp only [Op.equalIn, Sem.run_bind, run_underlying' hu, Result.andThen, run_sizeOf' h1, ne_eq, hn, not_false_eq_true, if_true, hsame]
            exact gen 9999
          cases op <;> simp only at h2 <;> first | (cases h2; done) | skip
          · cases h2
            simp only [Sem.run_bind, e, Result.andThen, binOp, key, Sem.run_pure]
          · cases h2
            simp only [Sem.run_bind, e, Result.andThen, binOp, key, Sem.run_pure, Bool.not_false]
        split at h2
        · rename_i hs
          simp only [Bool.and_eq_true, Nat.ble_eq] at hs
          exact fin (hblk (.inl hs.1)) (.inl (mkd_eq (oa.2.2.2 hs.1 hs.2) hca)) h2
        · split at h2
          · rename_i hs
            simp only [Bool.and_eq_true, Nat.ble_eq] at hs
            exact fin (hblk (.inr hs.1)) (.inr (mkd_eq (ob.2.2.2 hs.1 hs.2) hcb)) h2
          · cases h2
      · cases h2
  · cases h

theorem aPtr_bool {op : BinOp} {t : TypeId} {a b v : Value} (h : aPtr P H op t a b = .ok v) : ∃ c, v = .bool c := by
  unfold aPtr at h
  split at h
  · obtain ⟨n, h1, h2⟩ := bok h
    split at h2
    · cases h2
    split at h2
    · split at h2
      · cases h2; exact ⟨_, rfl⟩
      · cases h2; exact ⟨_, rfl⟩
      · cases h2
    · split at h2
      · split at h2
        · cases h2
        split at h2
        · split at h2
          · cases h2; exact ⟨_, rfl⟩
          · cases h2; exact ⟨_, rfl⟩
          · cases h2
        · split at h2
          · split at h2
            · cases h2; exact ⟨_, rfl⟩
            · cases h2; exact ⟨_, rfl⟩
            · cases h2
          · cases h2
      · cases h2
  · cases h

theorem sim_binOp {op : BinOp} {t t2 : TypeId} {x y : Operand} (h : Rel ρ H W) (hx : OpE a ca ρ x) (hy : OpE a ca ρ y) (ho : aOp P rec a H ⟨d, .binOp op t x y t2, ty, ps, af, gu⟩ = .ok (v, H')) :
    Sim1 P ⟨d, .binOp op t x y t2, ty, ps, af, gu⟩ ρ H W ca v H' := by
  simp only [aOp] at ho
  obtain ⟨u, h1, h2⟩ := bok ho
  obtain ⟨w, h3, h4⟩ := bok h2
  split at h4
  · obtain ⟨r, h5, h6⟩ := bok h4
    cases h6
    have k1 := ptr_sim (x := x) (y := y) h h5 (hx _ h1) (hy _ h3)
    obtain ⟨c, rfl⟩ := aPtr_bool h5
    exact .same h (v' := .bool c) (by simp only [execOp, Sem.run_bind, k1, Result.andThen]; rfl) (.bool c)
  · obtain ⟨r, h5, h6⟩ := bok h4
    cases h6
    obtain ⟨v', k1, k2⟩ := bin_sim h5 (hx _ h1) (hy _ h3) W
    exact .same h (v' := v') (by simp only [execOp, Sem.run_bind, k1, Result.andThen]; rfl) k2

theorem sim_unOp {op : UnOp} {t : TypeId} {x : Operand} (h : Rel ρ H W) (hx : OpE a ca ρ x) (ho : aOp P rec a H ⟨d, .unOp op t x, ty, ps, af, gu⟩ = .ok (v, H')) : Sim1 P ⟨d, .unOp op t x, ty, ps, af, gu⟩ ρ H W ca v H' := by
  simp only [aOp] at ho
  obtain ⟨u, h1, h2⟩ := bok ho
  split at h2
  · obtain ⟨r, h3, h4⟩ := bok h2
    cases h4
    obtain ⟨k1, k2⟩ := gOnly_ok h3
    exact .same h (v' := v) (by simp only [execOp, (hx _ h1).int_inv, Sem.run_bind, pureRun_ok _ k1 W, Result.andThen]; rfl) (gnd_refl _ k2)
  · obtain ⟨r, h3, h4⟩ := bok h2
    cases h4
    obtain ⟨k1, k2⟩ := gOnly_ok h3
    exact .same h (v' := v) (by simp only [execOp, (hx _ h1).bool_inv, Sem.run_bind, pureRun_ok _ k1 W, Result.andThen]; rfl) (gnd_refl _ k2)
  · cases h2

theorem sim_makeInterface {t : TypeId} {x : Operand} (h : Rel ρ H W) (hx : OpE a ca ρ x) (ho : aOp P rec a H ⟨d, .makeInterface t x, ty, ps, af, gu⟩ = .ok (v, H')) :
    Sim1 P ⟨d, .makeInterface t x, ty, ps, af, gu⟩ ρ H W ca v H' := by
  simp only [aOp] at ho
  split at ho
  · cases ho
  · rename_i d' hn hu
    obtain ⟨u, h1, h2⟩ := bok ho
    cases h2
    refine .same h (v' := .iface t (ca.eval x)) ?_ (.iface (hx _ h1))
    simp only [execOp, Instr.makeInterface, Sem.run_bind, run_underlying' hu, Result.andThen]
    cases d' <;> first | rfl | exact absurd hu (by simpa using hn _)
  · cases ho

theorem allR_eval {l : List Operand} {vs : List Value} (h : allR a.eval l = .ok vs) (hx : ∀ x ∈ l, OpE a ca ρ x) : LR ρ vs (l.map ca.eval) := by
  induction l generalizing vs with
  | nil => simp [allR] at h; subst h; exact LR.nil ρ
  | cons x l ih =>
    simp only [allR] at h
    obtain ⟨u, h1, h2⟩ := bok h
    obtain ⟨ws, h3, h4⟩ := bok h2
    cases h4
    exact (ih h3 fun y hy => hx y (by simp [hy])).cons (hx x (by simp) _ h1)

theorem sim_makeFunc {fn : Fn} {first cap : Array Operand} (h : Rel ρ H W) (hx : ∀ x ∈ first.toList, OpE a ca ρ x) (hy : ∀ x ∈ cap.toList, OpE a ca ρ x)
    (ho : aOp P rec a H ⟨d, .makeFunc fn first cap, ty, ps, af, gu⟩ = .ok (v, H')) : Sim1 P ⟨d, .makeFunc fn first cap, ty, ps, af, gu⟩ ρ H W ca v H' := by
  cases fn <;> simp only [aOp] at ho <;> first | (cases ho; done) | skip
  obtain ⟨us, h1, h2⟩ := bok ho
  obtain ⟨ws, h3, h4⟩ := bok h2
  cases h4
  have l1 := allR_eval h1 hx
  have l2 := allR_eval h3 hy
  refine .same h (v' := .func (.func _) (first.map ca.eval) (cap.map ca.eval)) rfl (.func ?_ ?_ ?_ ?_)
  · simpa using l1.1
  · simpa using l1.2
  · simpa using l2.1
  · simpa using l2.2

end ops
end
end Go.Eng
