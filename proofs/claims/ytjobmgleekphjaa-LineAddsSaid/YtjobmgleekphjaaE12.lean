/-
  Regions: operations in the text's order, or in whatever order their edges allow.
-/
import Derived.Test.YtjobmgleekphjaaE11
set_option linter.unusedSimpArgs false
namespace Go.Eng
noncomputable section
variable {P : Program}

/-! ### Is an operation carried out? -/
theorem wanted_sim {ρ : Ren} {ops : Array Oper} {a : AAct} {ca : Act} {o : Oper} {b : Bool} (h : aWanted ops.toList a o = .ok b) (hsz : ca.tmps.size = a.n)
    (ht : ∀ g w d, o.guard = some (g, w) → (ops[g]?).bind (·.dst) = some d → VR ρ ((a.tm.get d).getD undef) (ca.tmps.getD d undef)) : Region.wanted o (yielded ops ca.tmps) = b := by
  unfold aWanted at h
  unfold Region.wanted
  cases hg : o.guard with
  | none => rw [hg] at h; cases h; rfl
  | some gw =>
    obtain ⟨g, want⟩ := gw
    rw [hg] at h
    simp only at h ⊢
    have hops : ops.toList[g]? = ops[g]? := by simp
    rw [hops] at h
    unfold yielded
    cases hd : (ops[g]?).bind (·.dst) with
    | none => rw [hd] at h; cases h
    | some d =>
      rw [hd] at h
      simp only at h ⊢
      by_cases hlt : d < a.n
      · rw [if_pos hlt] at h
        have hv := ht g want d hg hd
        have hlt' : d < ca.tmps.size := by rw [hsz]; exact hlt
        have hget : ca.tmps[d]? = some (ca.tmps.getD d undef) := by simp [Array.getD_eq_getD_getElem?, hlt']
        simp only [Option.bind_some, hget]
        generalize ca.tmps.getD d undef = u at hv
        split at h
        · rename_i b' hb
          cases h
          rw [hb] at hv
          rw [hv.bool_inv]
          simp
        · rename_i hn
          cases h
          have hnb : ∀ b', u ≠ .bool b' := fun b' e => by
            subst e
            cases hm : a.tm.get d with
            | none => rw [hm] at hv; cases hv
            | some v =>
              rw [hm] at hv
              simp only [Option.getD_some] at hv
              cases hv
              exact hn _ hm
          cases u <;> first | rfl | exact absurd rfl (hnb _)
      · rw [if_neg hlt] at h; cases h

/-! ### In the text's order -/
theorem deferOf_none {o : Op} (h : deferOf o = none) : ∀ c, o ≠ .defer c := fun c e => by subst e; cases h
theorem deferOf_some {o : Op} {c : Call} (h : deferOf o = some c) : o = .defer c := by
  cases o <;> simp [deferOf] at h
  rw [h]

theorem defer_wp {a : AAct} {ca : Act} {ρ : Ren} {W : World} {d : ADef} {o : Oper} {c : Call} (hop : o.op = .defer c) (hE : ∀ x, OpE a ca ρ x) (h : aDefer a c = .ok d) (n : Nat) {next : Act → World → Prop} {Q : Exit → Act → World → Prop}
    (hnext : ∀ cd, DefR ρ d cd → next ({ ca with defers := cd :: ca.defers }.put o.dst undef) W) : o.wpIn (WF none) n P ca W next Q := by
  refine ⟨about_any _ (fun f => trivial) o W ca.eval, ?_⟩
  obtain ⟨dst, op, ty, ps, af, gu⟩ := o
  simp only at hop
  subst hop
  obtain ⟨cal, args, ats⟩ := c
  unfold aDefer at h
  obtain ⟨vs, h1, h2⟩ := bok h
  have hl := allR_eval (ca := ca) (ρ := ρ) h1 (fun x _ => hE x)
  simp only at h2
  cases cal with
  | builtin b => cases h2
  | invoke r m => cases h2
  | value f =>
    simp only at h2
    obtain ⟨fv, h3, h4⟩ := bok h2
    have hfv := hE f _ h3
    obtain ⟨fv', hfe⟩ : ∃ fv', ca.eval f = fv' := ⟨_, rfl⟩
    rw [hfe] at hfv
    split at h4
    · rename_i g first cap
      cases h4
      cases hfv with
      | func e1 e2 e3 e4 =>
        rename_i first' cap'
        have hrun : (Oper.semAt (WF none).round ca.eval ⟨dst, .defer ⟨.value f, args, ats⟩, ty, ps, af, gu⟩).run P W = .ok (.defer { target := .fn (.func g) cap', args := first' ++ args.map ca.eval }) W := by
          show (execOp ca.eval ⟨dst, .defer ⟨.value f, args, ats⟩, ty, ps, af, gu⟩).run P W = _
          simp only [execOp, resolve, hfe, Deferred.ofValue, Sem.run_bind, Sem.run_pure, Result.andThen]
        rw [hrun, Oper.uponIn_defer]
        refine hnext _ ⟨cap', first' ++ args.map ca.eval, rfl, ?_⟩
        have : (first' ++ args.map ca.eval).toList ++ cap'.toList = first'.toList ++ args.toList.map ca.eval ++ cap'.toList := by simp
        rw [this]
        exact LR.append (LR.append ⟨e1, e2⟩ hl) ⟨e3, e4⟩
    · cases h4

theorem ops_sim {rec : Rec} (hrec : RecOK P rec) {ops : Array Oper} (r rc : Option Nat) (hrr : r = none → rc = none) (n : Nat) {Q : Exit → Act → World → Prop} : ∀ (os : List Oper) (idxs : List Nat) (a a' : AAct) (ca : Act) (ρ : Ren) (H H' : AH) (W : World),
    aOps P rec r ops.toList os a H = .ok (a', H') → idxs.length = os.length → (∀ (k i : Nat) (o : Oper), idxs[k]? = some i → os[k]? = some o → ops[i]? = some o) → Rel ρ H W → AR ρ a ca →
    (∀ ρ' ca' W', St ρ H W ρ' H' W' → AR ρ' a' ca' → Q .normal ca' W') → wpOpsIn (WF rc) n P ops Q idxs ca W
  | [], idxs, a, a', ca, ρ, H, H', W, h, hl, _, hR, hA, hQ => by
    cases idxs with
    | cons _ _ => simp at hl
    | nil =>
      simp only [aOps] at h
      cases h
      exact hQ ρ ca W (St.refl hR) hA
  | o :: os, [], a, a', ca, ρ, H, H', W, h, hl, _, hR, hA, hQ => by simp at hl
  | o :: os, i :: idxs, a, a', ca, ρ, H, H', W, h, hl, hix, hR, hA, hQ => by
    have hi : ops[i]? = some o := hix 0 i o rfl rfl
    have hix' : ∀ (k i : Nat) (o : Oper), idxs[k]? = some i → os[k]? = some o → ops[i]? = some o := fun k j u h1 h2 => hix (k + 1) j u (by simpa using h1) (by simpa using h2)
    simp only [aOps] at h
    obtain ⟨b, h1, h2⟩ := bok h
    clear h
    have hw := wanted_sim (ρ := ρ) h1 hA.tm.1 (fun g w d _ _ => hA.tm.2 d)
    simp only [wpOpsIn, hi]
    cases b with
    | true =>
      simp only [if_true] at h2
      rw [if_pos hw]
      split at h2
      · rename_i c hdo
        split at h2
        · cases h2
        rename_i hrn
        have hr0 : r = none := by cases r <;> simp at hrn ⊢
        have hrc := hrr hr0
        subst hrc
        obtain ⟨d, h3, h4⟩ := bok h2
        obtain ⟨a1, h5, h6⟩ := bok h4
        refine defer_wp (deferOf_some hdo) (fun x => hA.eval x) h3 n (fun cd hcd => ?_)
        have hA2 : AR ρ { a with marks := d :: a.marks } { ca with defers := cd :: ca.defers } := ⟨hA.tm, hA.marks.cons hcd⟩
        exact ops_sim hrec r none hrr n os idxs a1 a' _ ρ H H' W h6 (by simpa using hl) hix' hR (hA2.put h5 (VR.undef _)) hQ
      · obtain ⟨⟨v, H1⟩, h3, h4⟩ := bok h2
        clear h2
        obtain ⟨a1, h5, h6⟩ := bok h4
        clear h4
        refine op_wp hrec hR (fun x _ => hA.eval x) h3 rc n (fun ρ' W' v' hst hvr => ?_)
        exact ops_sim hrec r rc hrr n os idxs a1 a' _ ρ' H1 H' W' h6 (by simpa using hl) hix' hst.rel ((hA.mono hst.le).put h5 hvr) (fun ρ'' ca' W'' hst' ha' => hQ ρ'' ca' W'' (hst.trans hst') ha')
    | false =>
      simp only [Bool.false_eq_true, if_false] at h2
      obtain ⟨a1, h5, h6⟩ := bok h2
      rw [if_neg (by rw [hw]; simp)]
      exact ⟨about_any _ (fun f => trivial) o W ca.eval, ops_sim hrec r rc hrr n os idxs a1 a' _ ρ H H' W h6 (by simpa using hl) hix' hR (hA.put h5 (VR.undef _)) hQ⟩

/-! ### The order left open -/
theorem bitsIn_iff {a b : Nat} : bitsIn a b = true ↔ ∀ i, a.testBit i = true → b.testBit i = true := by
  unfold bitsIn
  rw [beq_iff_eq]
  constructor
  · intro h i hi
    have : (a &&& b).testBit i = true := by rw [h]; exact hi
    rw [Nat.testBit_and] at this
    simp at this
    exact this.2
  · intro h
    apply Nat.eq_of_testBit_eq
    intro i
    rw [Nat.testBit_and]
    cases ha : a.testBit i with
    | false => rfl
    | true => simp [h i ha]

theorem clo1_bit (acc : List Nat) (o : Oper) (i : Nat) : (clo1 acc o).testBit i = true ↔ ∃ e ∈ o.after.toList, Region.binds .any e = true ∧ (i = e.on ∨ (acc.getD e.on 0).testBit i = true) := by
  unfold clo1
  have key : ∀ (l : List Edge) (m : Nat), (l.foldl (fun m e => if Region.binds .any e then m ||| 2 ^ e.on ||| acc.getD e.on 0 else m) m).testBit i = true ↔ m.testBit i = true ∨ ∃ e ∈ l, Region.binds .any e = true ∧ (i = e.on ∨ (acc.getD e.on 0).testBit i = true) := by
    intro l
    induction l with
    | nil => intro m; simp
    | cons e l ih =>
      intro m
      rw [List.foldl_cons, ih]
      by_cases hb : Region.binds .any e = true
      · simp only [hb, if_true, Nat.testBit_or, Nat.testBit_two_pow, Bool.or_eq_true, decide_eq_true_eq, List.mem_cons, exists_eq_or_imp, true_and]
        constructor
        · intro h
          rcases h with ((h | h) | h) | h
          · exact .inl h
          · exact .inr (.inl (.inl h.symm))
          · exact .inr (.inl (.inr h))
          · exact .inr (.inr h)
        · intro h
          rcases h with h | ((h | h) | h)
          · exact .inl (.inl (.inl h))
          · exact .inl (.inl (.inr h.symm))
          · exact .inl (.inr h)
          · exact .inr h
      · have hbf : Region.binds .any e = false := by simpa using hb
        simp [hbf]
  rw [key]
  simp

theorem clos_go : ∀ (os : List Oper) (acc : List Nat), ∃ ext, os.foldl (fun acc o => acc ++ [clo1 acc o]) acc = acc ++ ext ∧ ext.length = os.length ∧
    ∀ (j : Nat) (o : Oper), os[j]? = some o → ext[j]? = some (clo1 (acc ++ ext.take j) o)
  | [], acc => ⟨[], by simp, rfl, fun j o h => by simp at h⟩
  | o :: os, acc => by
    obtain ⟨ext, h1, h2, h3⟩ := clos_go os (acc ++ [clo1 acc o])
    refine ⟨clo1 acc o :: ext, by rw [List.foldl_cons, h1]; simp, by simp [h2], fun j u hj => ?_⟩
    cases j with
    | zero => simp at hj; subst hj; simp
    | succ j =>
      simp only [List.getElem?_cons_succ] at hj ⊢
      rw [h3 j u hj]
      simp

theorem clos_bit {os : List Oper} {j : Nat} {o : Oper} (hj : os[j]? = some o) (hlt : ∀ e ∈ o.after.toList, Region.binds .any e = true → e.on < j) (i : Nat) :
    ((clos os).getD j 0).testBit i = true ↔ ∃ e ∈ o.after.toList, Region.binds .any e = true ∧ (i = e.on ∨ ((clos os).getD e.on 0).testBit i = true) := by
  obtain ⟨ext, h1, h2, h3⟩ := clos_go os []
  have e : clos os = ext := by unfold clos; simpa using h1
  rw [e]
  have h4 := h3 j o hj
  simp only [List.nil_append] at h4
  rw [show ext.getD j 0 = clo1 (ext.take j) o by rw [List.getD_eq_getElem?_getD, h4]; rfl, clo1_bit]
  have ht : ∀ k, k < j → (ext.take j).getD k 0 = ext.getD k 0 := fun k hk => by
    rw [List.getD_eq_getElem?_getD, List.getD_eq_getElem?_getD, List.getElem?_take, if_pos hk]
  constructor
  · rintro ⟨e, he, hb, h⟩
    exact ⟨e, he, hb, by rw [ht _ (hlt e he hb)] at h; exact h⟩
  · rintro ⟨e, he, hb, h⟩
    exact ⟨e, he, hb, by rw [ht _ (hlt e he hb)]; exact h⟩

/-- what has come up stays below what it waits for -/
def Down (os : List Oper) (D : Nat → Prop) : Prop := ∀ j o, D j → os[j]? = some o → ∀ e ∈ o.after.toList, Region.binds .any e = true → D e.on

def EdgesBack (os : List Oper) : Prop := ∀ j o, os[j]? = some o → ∀ e ∈ o.after.toList, Region.binds .any e = true → e.on < j

theorem clo_down {os : List Oper} (hb : EdgesBack os) {D : Nat → Prop} (hD : Down os D) : ∀ (j : Nat) (o : Oper), os[j]? = some o → (∀ e ∈ o.after.toList, Region.binds .any e = true → D e.on) → ∀ i, ((clos os).getD j 0).testBit i = true → D i := by
  intro j
  induction j using Nat.strongRecOn with
  | _ j ih =>
    intro o hj hd i hi
    obtain ⟨e, he, hbi, h⟩ := (clos_bit hj (hb j o hj) i).1 hi
    rcases h with rfl | h
    · exact hd e he hbi
    · have hlt := hb j o hj e he hbi
      have hjl : j < os.length := by
        rcases Nat.lt_or_ge j os.length with h' | h'
        · exact h'
        · rw [List.getElem?_eq_none h'] at hj; cases hj
      have hen : os[e.on]? = some os[e.on] := List.getElem?_eq_getElem (by omega)
      exact ih e.on hlt _ hen (hD e.on _ (hd e he hbi) hen) i h

theorem fold_steps {α β : Type} {f : α → β → R α} : ∀ (l : List β) (s s' : α), l.foldlM f s = .ok s' → ∃ S : Nat → α, S 0 = s ∧ S l.length = s' ∧ ∀ (p : Nat) (j : β), l[p]? = some j → f (S p) j = .ok (S (p + 1))
  | [], s, s', h => by
    simp only [List.foldlM_nil] at h
    cases h
    exact ⟨fun _ => s, rfl, rfl, fun p j h => by simp at h⟩
  | x :: l, s, s', h => by
    simp only [List.foldlM_cons] at h
    obtain ⟨s1, h1, h2⟩ := bok h
    obtain ⟨S, e1, e2, e3⟩ := fold_steps l s1 s' h2
    refine ⟨fun p => match p with | 0 => s | p + 1 => S p, rfl, e2, fun p j hp => ?_⟩
    cases p with
    | zero => simp at hp; subst hp; rw [h1]; exact congrArg Except.ok e1.symm
    | succ p => exact e3 p j (by simpa using hp)

theorem zip_all {n : Nat} (ih : ∀ {v u : Value}, veq n v u = true → u = v) : ∀ (l m : List Value), l.length = m.length → ((l.zip m).all fun (p : Value × Value) => veq n p.1 p.2) = true → m = l
  | [], [], _, _ => rfl
  | [], _ :: _, h, _ => by simp at h
  | _ :: _, [], h, _ => by simp at h
  | a :: l, b :: m, h, hz => by
    simp only [List.zip_cons_cons, List.all_cons, Bool.and_eq_true] at hz
    rw [ih hz.1, zip_all ih l m (by simpa using h) hz.2]

theorem fnEq_eq {p q : Fn} (h : fnEq p q = true) : q = p := by
  cases p <;> cases q <;> simp [fnEq] at h
  rw [h]

theorem veq_eq : ∀ (n : Nat) {v u : Value}, veq n v u = true → u = v := by
  intro n
  induction n with
  | zero =>
    intro v u h
    cases v <;> cases u <;> simp [veq] at h
    all_goals first
      | rfl
      | (simp [h]; done)
      | (rename_i a b; have e : b = a := (by cases a; cases b; congr 1; simpa using h.symm); rw [e]; done)
  | succ n ih =>
    intro v u h
    have arr : ∀ (a b : Array Value), a.size = b.size → ((a.toList.zip b.toList).all fun (x, y) => veq n x y) = true → b = a := fun a b h1 h2 => Array.ext' (zip_all ih a.toList b.toList (by simpa using h1) h2)
    cases v <;> cases u <;> simp only [veq] at h <;> first | (cases h; done) | skip
    all_goals first
      | rfl
      | (simp at h; simp [h]; done)
      | (rename_i a b; simp at h; have e : b = a := (by cases a; cases b; congr 1; simpa using h.symm); rw [e]; done)
      | (rename_i a b; simp only [Bool.and_eq_true, beq_iff_eq] at h; rw [arr a b h.1 h.2]; done)
      | (simp only [Bool.and_eq_true, beq_iff_eq] at h; rw [h.1, ih h.2]; done)
      | (simp only [Bool.and_eq_true, beq_iff_eq] at h; rw [fnEq_eq h.1, arr _ _ h.2.1.1 h.2.1.2, arr _ _ h.2.2.1 h.2.2.2]; done)

end
end Go.Eng
