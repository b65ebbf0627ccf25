/-
  A region whose order is open: every order that the model may draw comes to what the abstract machine tells.
-/
import Derived.Test.YtbcgpjfjfnnlcaaE13
set_option linter.unusedSimpArgs false
namespace Go.Eng
noncomputable section
variable {P : Program}

structure Inv (P : Program) (rec : Rec) (os : List Oper) (pn : List Pend) (a : AAct) (ca0 : Act) (L : List Nat) (S : Nat → DS) (ρ0 : Ren) (H : AH) (W0 : World) (ld : Array Bool) (ρ : Ren) (ca : Act) (W : World) (k : Nat) : Prop where
  size : ld.size = os.length
  down : Down os (fun i => ld.getD i false = true)
  chief : ∀ (p j : Nat) (o : Oper), L[p]? = some j → os[j]? = some o → light P o = false → (ld.getD j false = true ↔ (S p).chs.length < k)
  kle : k ≤ (S L.length).chs.length
  st : St ρ0 H W0 ρ (memAt L S k).H W
  pin : PInv pn W0 ld ρ W (memAt L S k)
  tms : ca.tmps.size = a.n
  defers : ca.defers = ca0.defers
  wrote : ∀ (p j : Nat) (o : Oper) (t : Nat), L[p]? = some j → os[j]? = some o → o.dst = some t → ld.getD j false = true → VR ρ (valAt P rec os pn S p j) (ca.tmps.getD t undef)
  rest : ∀ t : Nat, (∀ (j : Nat) (o : Oper), os[j]? = some o → o.dst = some t → ld.getD j false = false) → VR ρ ((a.tm.get t).getD undef) (ca.tmps.getD t undef)

section
variable {rec : Rec} {os : List Oper} {pn : List Pend} {a : AAct} {ca0 : Act} {L : List Nat} {S : Nat → DS} {ρ0 : Ren} {H Hs : AH} {W0 : World} {ld : Array Bool} {ρ : Ren} {ca : Act} {W : World} {k : Nat} {lo n : Nat}

theorem lt_of_get {α : Type} {l : List α} {i : Nat} {x : α} (h : l[i]? = some x) : i < l.length := by
  rcases Nat.lt_or_ge i l.length with h' | h'
  · exact h'
  · rw [List.getElem?_eq_none h'] at h; cases h

theorem Run.writer (R : Run P rec os pn a Hs L S) {i j : Nat} {o w : Oper} {t : Nat} (h1 : os[i]? = some o) (h2 : o.dst = some t) (h3 : os[j]? = some w) (h4 : w.dst = some t) : i = j := by
  rcases R.tmps i j o w t h1 h3 h4 with h | ⟨h, _⟩
  · exact h.symm
  · exact absurd h2 h

/-- what a ready operation looks at stands where the abstract machine has it -/
theorem Inv.look (R : Run P rec os pn a Hs L S) (I : Inv P rec os pn a ca0 L S ρ0 H W0 ld ρ ca W k) {p i : Nat} {o : Oper} (hp : L[p]? = some i) (ho : os[i]? = some o) (hn : ld.getD i false = false)
    (hc : ∀ x, ((clos os).getD i 0).testBit x = true → ld.getD x false = true) {t : Nat} (ht : t ∈ looks os o) : VR ρ (((S p).a.tm.get t).getD undef) (ca.tmps.getD t undef) := by
  have hpl := R.lt hp
  by_cases hw : ∃ (j : Nat) (w : Oper), os[j]? = some w ∧ w.dst = some t
  · obtain ⟨j, w, hj, hd⟩ := hw
    have none_case : (∀ q, q < p → L[q]? = some j → False) → ld.getD j false = false → VR ρ (((S p).a.tm.get t).getD undef) (ca.tmps.getD t undef) := fun h1 h2 => by
      rw [R.tm_none p (by omega) t (fun q j' o' hq hl ho' hd' => by
        have := R.writer ho' hd' hj hd
        subst this
        exact h1 q hq hl)]
      refine I.rest t (fun j' o' ho' hd' => ?_)
      have := R.writer ho' hd' hj hd
      subst this
      exact h2
    rcases R.tmps i j o w t ho hj hd with h | ⟨_, h | h | h⟩
    · subst h
      exact none_case (fun q hq hl => by have := R.unique hl hp; omega) hn
    · exact absurd ht h
    · have hl := hc j h
      obtain ⟨o', v, H1, F⟩ := R.step p i hp
      obtain ⟨q, hq, hqj⟩ := (R.done_bit p (by omega) j).1 (F.below j h)
      rw [R.tm_some p (by omega) q j w t hq hqj hj hd]
      exact I.wrote q j w t hqj hj hd hl
    · refine none_case (fun q hq hl => ?_) ?_
      · obtain ⟨o', v, H1, F⟩ := R.step q j hl
        obtain ⟨q', hq', hqi⟩ := (R.done_bit q (by have := R.lt hl; omega) i).1 (F.below i h)
        have := R.unique hqi hp
        omega
      · cases hld : ld.getD j false with
        | false => rfl
        | true =>
          have := clo_down R.edges I.down j w hj (fun e he hb => I.down j w hld hj e he hb) i h
          simp only [hn] at this
          cases this
  · have hw' : ∀ (j : Nat) (o' : Oper), os[j]? = some o' → o'.dst = some t → False := fun j o' h1 h2 => hw ⟨j, o', h1, h2⟩
    rw [R.tm_none p (by omega) t (fun q j' o' hq hl ho' hd' => hw' j' o' ho' hd')]
    exact I.rest t (fun j' o' ho' hd' => (hw' j' o' ho' hd').elim)

/-- what a ready operation does, where it comes up -/
theorem Inv.does (R : Run P rec os pn a Hs L S) (Pd : Pends P os lo n pn) (I : Inv P rec os pn a ca0 L S ρ0 H W0 ld ρ ca W k) {p i : Nat} {o : Oper} (hp : L[p]? = some i) (ho : os[i]? = some o) (hn : ld.getD i false = false) (hfl : floatOp o = false)
    (hc : ∀ x, ((clos os).getD i 0).testBit x = true → ld.getD x false = true) :
    ∃ k' M', aDo P rec os (S p).a ((memAt L S k).ins ((clos os).getD i 0) pn) o = .ok (valAt P rec os pn S p i, M') ∧ k' ≤ (S L.length).chs.length ∧
      (light P o = true → k' = k) ∧ (light P o = false → k' = k + 1 ∧ (S p).chs.length = k) ∧
      ((memAt L S k' = memAt L S k ∧ M' = (memAt L S k).ins ((clos os).getD i 0) pn) ∨ ((memAt L S k').H = M' ∧ (memAt L S k').got = (memAt L S k).got ||| (clos os).getD i 0)) := by
  have hpl := R.lt hp
  obtain ⟨o', v, H1, F⟩ := R.step p i hp
  have hoo : o' = o := by have := F.op; rw [ho] at this; cases this; rfl
  subst hoo
  rw [F.val]
  have did := F.did hfl
  have hchief : ∀ (m : Nat) (x : Nat × PM), (S p).chs[m]? = some x → k ≤ (S p).chs.length - 1 - m → ((clos os).getD i 0).testBit x.1 = false := fun m x hm hk => by
    cases hb : ((clos os).getD i 0).testBit x.1 with
    | false => rfl
    | true =>
      obtain ⟨q, o2, _, h2, h3, h4, h5⟩ := R.chs_chief p (by omega) m x hm
      have := (I.chief q x.1 o2 h2 h3 h4).1 (hc _ hb)
      omega
  rcases F.kind with ⟨k0, k1, k2, k3, k4⟩ | ⟨k0, k1, k2, k3, k4, k5⟩
  · refine ⟨k, _, ?_, I.kle, (fun _ => rfl), (fun h => by rw [k0] at h; cases h), .inl ⟨rfl, rfl⟩⟩
    rcases k4 with hf | hpu | ⟨hre, hsb⟩
    · rw [hfl] at hf; cases hf
    · obtain ⟨e, h⟩ := aDo_pure hpu did
      exact h _
    · have hkc : k ≤ (S p).chs.length := by
        rcases Nat.lt_or_ge (S p).chs.length k with hlt | hge
        · obtain ⟨q, j, oj, h1, h2, h3, h4, h5, h6⟩ := R.next_chief (L.length - p) p (by omega) (by have := I.kle; omega)
          have hqp : p < q := by
            rcases Nat.lt_or_ge p q with h | h
            · exact h
            · have : q = p := by omega
              subst this
              rw [hp] at h2
              cases h2
              rw [ho] at h3
              cases h3
              rw [k0] at h4
              cases h4
          obtain ⟨o2, v2, H2, F2⟩ := R.step q j h2
          have ho2 : o2 = oj := by have := F2.op; rw [h3] at this; cases this; rfl
          subst ho2
          rcases F2.kind with ⟨j0, _⟩ | ⟨j0, j1, j2, j3, j4, j5⟩
          · rw [h4] at j0; cases j0
          · have d1 : (S q).done.testBit i = true := (R.done_bit q (by have := R.lt h2; omega) i).2 ⟨p, hqp, hp⟩
            have d2 : (S q).last.testBit i = false := by
              rw [h6]
              cases hb : (S p).last.testBit i with
              | false => rfl
              | true => have := R.last_done p (by omega) i hb; rw [F.fresh] at this; cases this
            have hx : ((clos os).getD j 0).testBit i = true := by
              rcases j4 i (by rw [Nat.testBit_xor, d1, d2]; rfl) with h | h
              · exact h
              · obtain ⟨pe, hpe, e⟩ := floatsOf_bit h
                obtain ⟨oe, he1, he2⟩ := Pd.float hpe
                rw [e, ho] at he1
                cases he1
                rw [hfl] at he2; cases he2
            have hld : ld.getD j false = true := (I.chief q j o2 h2 h3 h4).2 (by omega)
            have := clo_down R.edges I.down j o2 h3 (fun e he hb => I.down j o2 hld h3 e he hb) i hx
            simp only [hn] at this
            cases this
        · exact hge
      have hH1 := aDo_read hre did
      rcases Nat.lt_or_ge k (S p).chs.length with hlt | hge
      · obtain ⟨x, h1, h2⟩ := R.memAt_chs (p := p) (by omega) hlt
        rw [h2]
        exact sameBack_spec hre _ hsb ((S p).chs.length - 1 - k) x h1 (fun m' y hm hy => hchief m' y hy (by omega))
      · have : k = (S p).chs.length := by omega
        rw [this, R.memAt_self (by omega)]
        rw [hH1] at did
        exact did
  · have hkc : (S p).chs.length = k := by
      have h1 : ¬ (S p).chs.length < k := fun h => by
        have := (I.chief p i o' hp ho k0).2 h
        rw [hn] at this
        cases this
      rcases Nat.lt_or_ge k (S p).chs.length with hlt | hge
      · cases hch : (S p).chs with
        | nil => rw [hch] at hlt; simp at hlt
        | cons c0 l =>
          have hb := k5 c0 l hch
          have := hchief 0 c0 (by rw [hch]; rfl) (by omega)
          rw [hb] at this
          cases this
      · omega
    have hnext : (S (p + 1)).chs.length = k + 1 := by rw [k2, List.length_cons, hkc]
    have e1 := R.memAt_self (p := p) (by omega)
    have e2 := R.memAt_self (p := p + 1) (by omega)
    rw [hkc] at e1
    rw [hnext] at e2
    refine ⟨k + 1, H1, ?_, ?_, (fun h => by rw [k0] at h; cases h), (fun _ => ⟨rfl, hkc⟩), .inr ?_⟩
    · rw [e1]
      exact did
    · have := R.mono (L.length - (p + 1)) (p + 1) (by omega)
      rw [show p + 1 + (L.length - (p + 1)) = L.length by omega] at this
      omega
    · rw [e1, e2, k1]
      exact ⟨rfl, rfl⟩

theorem Run.puts (R : Run P rec os pn a Hs L S) {p i : Nat} {o : Oper} (hp : L[p]? = some i) (ho : os[i]? = some o) : ∃ a', (S p).a.put o.dst (valAt P rec os pn S p i) = .ok a' := by
  obtain ⟨o', v, H1, F⟩ := R.step p i hp
  have hoo : o' = o := by have := F.op; rw [ho] at this; cases this; rfl
  subst hoo
  rw [F.val]
  exact ⟨_, F.put⟩

theorem Inv.turn (R : Run P rec os pn a Hs L S) (I : Inv P rec os pn a ca0 L S ρ0 H W0 ld ρ ca W k) {p i : Nat} {o : Oper} (hp : L[p]? = some i) (ho : os[i]? = some o) (hn : ld.getD i false = false)
    (he : ∀ e ∈ o.after.toList, Region.binds .any e = true → ld.getD e.on false = true) {k' : Nat} {ρ' : Ren} {W' : World} {v' : Value}
    (hk' : k' ≤ (S L.length).chs.length) (hput : ∃ a', (S p).a.put o.dst (valAt P rec os pn S p i) = .ok a') (hpr : light P o = true → k' = k) (hch : light P o = false → k' = k + 1 ∧ (S p).chs.length = k)
    (hle : ρ.le ρ') (hst : St ρ0 H W0 ρ' (memAt L S k').H W') (hpin : PInv pn W0 (ld.setIfInBounds i true) ρ' W' (memAt L S k')) (hv : VR ρ' (valAt P rec os pn S p i) v') :
    Inv P rec os pn a ca0 L S ρ0 H W0 (ld.setIfInBounds i true) ρ' (ca.put o.dst v') W' k' := by
  have hil : i < ld.size := by rw [I.size]; exact lt_of_get ho
  have hget : ∀ j, (ld.setIfInBounds i true).getD j false = true ↔ (j = i ∨ ld.getD j false = true) := fun j => by
    simp only [Array.getD_eq_getD_getElem?]
    by_cases e : j = i
    · subst e; simp [hil]
    · rw [Array.getElem?_setIfInBounds_ne (fun h => e h.symm)]
      simp [e]
  have hgetf : ∀ j, (ld.setIfInBounds i true).getD j false = false → j ≠ i ∧ ld.getD j false = false := fun j h => by
    have := hget j
    rw [h] at this
    constructor
    · intro e; have := this.2 (.inl e); cases this
    · cases h2 : ld.getD j false with
      | false => rfl
      | true => have := this.2 (.inr h2); cases this
  have hsz : (ca.put o.dst v').tmps.size = ca.tmps.size := by unfold Act.put; cases o.dst <;> simp
  have hother : ∀ t, o.dst ≠ some t → (ca.put o.dst v').tmps.getD t undef = ca.tmps.getD t undef := fun t hd => by
    unfold Act.put
    cases hdd : o.dst with
    | none => rfl
    | some d =>
      simp only [Array.getD_eq_getD_getElem?]
      rw [Array.getElem?_setIfInBounds_ne (fun h => hd (by rw [hdd, h]))]
  refine ⟨by simp [I.size], fun j o2 hj ho2 e he2 hb => ?_, fun q j o2 hq hj hcf => ?_, hk', hst, hpin, by rw [hsz]; exact I.tms, ?_, fun q j o2 t hq hj hd hl => ?_, fun t ht => ?_⟩
  · show (ld.setIfInBounds i true).getD e.on false = true
    rw [hget]
    rcases (hget j).1 hj with e1 | h1
    · subst e1
      rw [ho] at ho2; cases ho2
      exact .inr (he e he2 hb)
    · exact .inr (I.down j o2 h1 ho2 e he2 hb)
  · rw [hget]
    cases hio : light P o with
    | true =>
      rw [hpr hio, ← I.chief q j o2 hq hj hcf]
      constructor
      · rintro (e | h)
        · subst e; rw [ho] at hj; cases hj; rw [hio] at hcf; cases hcf
        · exact h
      · exact .inr
    | false =>
      obtain ⟨e1, e2⟩ := hch hio
      have hI := I.chief q j o2 hq hj hcf
      rw [e1]
      constructor
      · rintro (e | h)
        · subst e
          rw [R.unique hq hp, e2]; omega
        · have := hI.1 h; omega
      · intro h
        by_cases hlt : (S q).chs.length < k
        · exact .inr (hI.2 hlt)
        · have heq : (S q).chs.length = k := by omega
          have step1 : ∀ (x : Nat) (jx : Nat) (ox : Oper), L[x]? = some jx → os[jx]? = some ox → light P ox = false → (S (x + 1)).chs.length = (S x).chs.length + 1 := fun x jx ox h1 h2 h3 => by
            obtain ⟨o3, v3, H3, F3⟩ := R.step x jx h1
            have : o3 = ox := by have := F3.op; rw [h2] at this; cases this; rfl
            subst this
            rcases F3.kind with ⟨j0, _⟩ | ⟨_, _, j2, _⟩
            · rw [h3] at j0; cases j0
            · rw [j2, List.length_cons]
          have hqp : q = p := by
            rcases Nat.lt_trichotomy q p with h1 | h1 | h1
            · have m := R.mono (p - (q + 1)) (q + 1) (by have := R.lt hp; omega)
              rw [show q + 1 + (p - (q + 1)) = p by omega, step1 q j o2 hq hj hcf] at m
              omega
            · exact h1
            · have m := R.mono (q - (p + 1)) (p + 1) (by have := R.lt hq; omega)
              rw [show p + 1 + (q - (p + 1)) = q by omega, step1 p i o hp ho hio] at m
              omega
          subst hqp
          rw [hp] at hq
          cases hq
          exact .inl rfl
  · rw [← I.defers]; unfold Act.put; cases o.dst <;> rfl
  · by_cases e : j = i
    · subst e
      rw [ho] at hj; cases hj
      have hqp := R.unique hq hp
      subst hqp
      obtain ⟨a', ha'⟩ := hput
      rw [hd] at ha'
      rw [AAct.put_eq] at ha'
      simp only at ha'
      split at ha'
      · rename_i hlt
        have htl : t < ca.tmps.size := by rw [I.tms, ← (R.n_eq q (by have := R.lt hp; omega)).1]; exact hlt.1
        have : (ca.put o.dst v').tmps.getD t undef = v' := by
          rw [hd]
          simp [Act.put, Array.getD_eq_getD_getElem?, htl]
        rw [this]
        exact hv
      · cases ha'
    · have hl' : ld.getD j false = true := by
        rcases (hget j).1 hl with h | h
        · exact absurd h e
        · exact h
      rw [hother t (fun h => e (R.writer ho h hj hd).symm)]
      exact (I.wrote q j o2 t hq hj hd hl').mono hle
  · have hne : o.dst ≠ some t := fun h => (hgetf i (ht i o ho h)).1 rfl
    rw [hother t hne]
    exact (I.rest t (fun j o2 hj hd => (hgetf j (ht j o2 hj hd)).2)).mono hle

theorem Inv.fin (R : Run P rec os pn a Hs L S) (I : Inv P rec os pn a ca0 L S ρ0 H W0 ld ρ ca W k) (Pd : Pends P os lo n pn) (hlo : True) (hall : ∀ i, i < os.length → ld.getD i false = true) (hm : MR ρ0 a.marks ca0.defers) :
    St ρ0 H W0 ρ ((S L.length).m.ins (S L.length).done pn) W ∧ AR ρ (S L.length).a ca := by
  have hk : k = (S L.length).chs.length := by
    rcases Nat.lt_or_ge k (S L.length).chs.length with hlt | hge
    · obtain ⟨x, hx⟩ : ∃ x, (S L.length).chs[0]? = some x := ⟨(S L.length).chs[0], List.getElem?_eq_getElem (by omega)⟩
      obtain ⟨q, o2, h1, h2, h3, h4, h5⟩ := R.chs_chief L.length (Nat.le_refl _) 0 x hx
      have := (I.chief q x.1 o2 h2 h3 h4).1 (hall _ (lt_of_get h3))
      omega
    · have := I.kle; omega
  have hmem := R.memAt_self (p := L.length) (Nat.le_refl _)
  rw [← hk] at hmem
  have hst := I.st
  have hpi := I.pin
  rw [hmem] at hst hpi
  have hst := insert_st (c := (S L.length).done) Pd hlo hpi (fun p hp _ => by
    obtain ⟨o, h1, _⟩ := Pd.float hp
    exact hall _ (lt_of_get h1)) hst
  obtain ⟨n1, n2⟩ := R.n_eq L.length (Nat.le_refl _)
  refine ⟨hst, ⟨⟨by rw [n1]; exact I.tms, fun t => ?_⟩, by rw [n2, I.defers]; exact hm.mono hst.le⟩⟩
  by_cases hw : ∃ (j : Nat) (w : Oper), os[j]? = some w ∧ w.dst = some t
  · obtain ⟨j, w, hj, hd⟩ := hw
    obtain ⟨q, hq⟩ := R.place (lt_of_get hj)
    rw [R.tm_some L.length (Nat.le_refl _) q j w t (R.lt hq) hq hj hd]
    exact I.wrote q j w t hq hj hd (hall j (lt_of_get hj))
  · have hw' : ∀ (j : Nat) (o' : Oper), os[j]? = some o' → o'.dst = some t → False := fun j o' h1 h2 => hw ⟨j, o', h1, h2⟩
    rw [R.tm_none L.length (Nat.le_refl _) t (fun q j' o' hq hl ho' hd' => hw' j' o' ho' hd')]
    exact I.rest t (fun j' o' ho' hd' => (hw' j' o' ho' hd').elim)

end

/-- so many are not listed -/
def unl (ld : Array Bool) : Nat := ld.toList.countP (fun b => !b)

theorem unl_set {ld : Array Bool} {i : Nat} (hi : i < ld.size) (hn : ld.getD i false = false) : unl (ld.setIfInBounds i true) + 1 = unl ld := by
  unfold unl
  have hget : ld.toList[i]'(by simpa using hi) = false := by
    simpa [Array.getD_eq_getD_getElem?, hi] using hn
  have key : ∀ (l : List Bool) (i : Nat) (h : i < l.length), l[i] = false → (l.set i true).countP (fun b => !b) + 1 = l.countP (fun b => !b) := by
    intro l
    induction l with
    | nil => intro i h; simp at h
    | cons x l ih =>
      intro i h hx
      cases i with
      | zero =>
        simp at hx
        subst hx
        simp
      | succ i =>
        simp only [List.getElem_cons_succ] at hx
        have := ih i (by simpa using h) hx
        simp only [List.set_cons_succ, List.countP_cons]
        omega
  rw [Array.toList_setIfInBounds]
  exact key ld.toList i (by simpa using hi) hget

theorem unl_zero {ld : Array Bool} (h : unl ld = 0) : ∀ i, i < ld.size → ld.getD i false = true := fun i hi => by
  unfold unl at h
  rw [List.countP_eq_zero] at h
  have := h (ld.toList[i]'(by simpa using hi)) (List.getElem_mem _)
  simpa [Array.getD_eq_getD_getElem?, hi] using this

theorem float_wp {a : AAct} {ρ : Ren} {o : Oper} {id : Nat} {r : Row} {ca : Act} {W : World} (hfl : floatOp o = true) (hr : floatRowOf P a o.op id = .ok r) (hx : ∀ x ∈ o.op.operands, OpE a ca ρ x) (rc : Option Nat) (n : Nat)
    {next : Act → World → Prop} {Q : Exit → Act → World → Prop} (hnext : ∀ (cs : Array Value) (t esz : Nat) (zs : List Value) (v : Value), r = floatRow t id esz zs → LR ρ zs cs.toList → (∀ (ρ' : Ren) (pl : Pl), ρ' id = some pl → pl.blk = W.heap.size → pl.base = 0 → VR ρ' (floatVal o.op id) v) →
      next (ca.put o.dst v) { W with heap := W.heap.push (.cells cs t) }) : o.wpIn (WF rc) n P ca W next Q := by
  refine ⟨about_any _ (fun f => trivial) o W ca.eval, ?_⟩
  unfold floatOp at hfl
  split at hfl
  · rename_i t ho hg
    have hnd : ∀ c, o.op ≠ .defer c := fun c e => by rw [ho] at e; cases e
    rw [Oper.semAt_eq _ _ _ hnd]
    rw [ho] at hr
    simp only [floatRowOf] at hr
    obtain ⟨zs, hz, h2⟩ := bok hr
    cases h2
    obtain ⟨z, z1, z2, z3, _⟩ := run_zeroValue' hz W
    have hrun : (execOp ca.eval o).run P W = .ok (.value (.pointer (some ⟨W.heap.size, 0, none⟩))) { W with heap := W.heap.push (.cells z.cells t) } := by
      unfold execOp
      rw [ho]
      simp only [Instr.alloc, Sem.run_bind, z1, Result.andThen, newVar, run_newRow', Sem.run_pure]
    rw [hrun]
    refine hnext z.cells t 0 zs _ rfl (by rw [z2]; exact gnd_list z3) (fun ρ' pl h1 h2 h3 => ?_)
    rw [ho]
    have := VR.ptr (off := 0) h1
    rw [h2, h3] at this
    exact this
  · rename_i t len parts ho hg
    have hnd : ∀ c, o.op ≠ .defer c := fun c e => by rw [ho] at e; cases e
    rw [Oper.semAt_eq _ _ _ hnd]
    rw [ho] at hr
    simp only [floatRowOf] at hr
    split at hr
    · rename_i elem hu
      obtain ⟨qs, h1, ho1⟩ := bok hr
      obtain ⟨size, h2, ho2⟩ := bok ho1
      split at ho2
      · cases ho2
      · rename_i hsm
        obtain ⟨zs, h3, ho3⟩ := bok ho2
        split at ho3
        · rename_i cells hf
          cases ho3
          have hx' : ∀ p ∈ parts.toList, OpE a ca ρ p.2 := fun p hp => hx p.2 (by rw [ho]; simp only [Op.operands, List.mem_toArray, List.mem_map]; exact ⟨p, hp, rfl⟩)
          obtain ⟨z, z1, z2, z3, inf, z4, z5⟩ := run_zeroValue' h3 W
          have hsize : size = inf.size := by obtain ⟨i2, q1, q2⟩ := tSize_info h2; rw [z4] at q1; cases q1; exact q2.symm
          have hz : z.cells.size = size := by rw [hsize, ← z5, ← z2]; simp
          obtain ⟨k1, k2⟩ := parts_eval h1 hx'
          have hg : ∀ m, (repeated zs m).all (gnd gd) = true := by
            intro m
            induction m with
            | zero => rfl
            | succ m ih => simp only [repeated, List.all_append, ih, z3, Bool.and_self]
          obtain ⟨r', f1, f2⟩ := fill_rel _ qs _ _ (repeated zs len).toArray cells k1 k2 (gnd_list (hg len)) hf
          have hrun : (execOp ca.eval o).run P W = .ok (.value (.slice (some ⟨W.heap.size, 0, none⟩) len len)) { W with heap := W.heap.push (.cells r' elem) } := by
            have hs1 : ¬ (len * size > 2 ^ 24) := hsm
            unfold execOp
            rw [ho]
            simp only [Instr.buildSlice, Sem.run_bind, run_underlying' hu, Result.andThen, run_sizeOf' h2, hs1, if_false]
            by_cases hn : len * size = 0
            · have e0 : ((Array.range 0).map fun x => (#[] : Array Value)[x % (#[] : Array Value).size]!) = (repeated zs len).toArray := by
                have : repeated zs len = [] := List.eq_nil_of_length_eq_zero (by rw [repeated_length, z5, ← hsize]; exact hn)
                rw [this]
                apply Array.eq_empty_of_size_eq_zero; simp
              simp only [hn, if_true, Sem.run_bind, Sem.run_pure, Result.andThen, e0, Array.toList_map, f1, run_newRow']
            · have e0 : ((Array.range (len * size)).map fun x => z.cells[x % z.cells.size]!) = (repeated zs len).toArray := by
                apply Array.ext'
                rw [← hz, zeros_eq, z2]
              simp only [hn, if_false, Sem.run_bind, Sem.run_pure, z1, Result.andThen, e0, Array.toList_map, f1, run_newRow']
          rw [hrun]
          refine hnext r' elem size cells.toList _ rfl f2 (fun ρ' pl h1 h2 h3 => ?_)
          rw [ho]
          have := VR.slice (off := 0) (n := len) (c := len) (c' := len) h1 (.inl rfl)
          rw [h2, h3] at this
          exact this
        · cases ho3
    · cases hr
  · cases hfl

theorem draw_go {rec : Rec} (hrec : RecOK P rec) {ops : Array Oper} {pn : List Pend} {a : AAct} {ca0 : Act} {L : List Nat} {S : Nat → DS} {ρ0 : Ren} {H Hs : AH} {W0 : World} {nn : Nat} (R : Run P rec ops.toList pn a Hs L S) (Pd : Pends P ops.toList H.next nn pn) (hlo : True) (hm : MR ρ0 a.marks ca0.defers) (rc : Option Nat) (n : Nat)
    {Q : Exit → Act → World → Prop} (hQ : ∀ ρ' ca' W', St ρ0 H W0 ρ' ((S L.length).m.ins (S L.length).done pn) W' → AR ρ' (S L.length).a ca' → Q .normal ca' W') :
    ∀ (fuel : Nat) (ld : Array Bool) (ρ : Ren) (ca : Act) (W : World) (k : Nat), Inv P rec ops.toList pn a ca0 L S ρ0 H W0 ld ρ ca W k → unl ld ≤ fuel → wpAnyIn (WF rc) n P .any ops Q fuel ld ca W := by
  have hsize : ops.toList.length = ops.size := by simp
  have mem : ∀ (ld : Array Bool), ld.size = ops.size → ∀ i, i ∈ Region.ready .any ops ld ↔ ∃ o, ops.toList[i]? = some o ∧ ld.getD i false = false ∧ ∀ e ∈ o.after.toList, Region.binds .any e = true → ld.getD e.on false = true := by
    intro ld hs i
    unfold Region.ready
    rw [List.mem_filter, List.mem_range]
    constructor
    · rintro ⟨h1, h2⟩
      have hi : ops[i]? = some ops[i] := by simp [h1]
      rw [hi] at h2
      simp only [Option.map_some, Option.getD_some, Bool.and_eq_true, Bool.not_eq_true'] at h2
      refine ⟨ops[i], by simp [h1], ?_, fun e he hb => ?_⟩
      · have := h2.1
        simp only [Array.getD_eq_getD_getElem?] at this ⊢
        rw [Array.getElem?_eq_getElem (by omega)] at this ⊢
        simpa using this
      · have := h2.2
        rw [← Array.all_toList] at this
        have := List.all_eq_true.1 this e he
        simpa [hb] using this
    · rintro ⟨o, h1, h2, h3⟩
      have hi : i < ops.size := by rw [← hsize]; exact lt_of_get h1
      have h1' : ops[i]? = some o := by simpa using h1
      refine ⟨hi, ?_⟩
      rw [h1']
      simp only [Option.map_some, Option.getD_some, Bool.and_eq_true, Bool.not_eq_true']
      refine ⟨?_, ?_⟩
      · simp only [Array.getD_eq_getD_getElem?] at h2 ⊢
        rw [Array.getElem?_eq_getElem (by omega)] at h2 ⊢
        simpa using h2
      · rw [← Array.all_toList]
        refine List.all_eq_true.2 (fun e he => ?_)
        cases hb : Region.binds .any e with
        | false => rfl
        | true => simpa using h3 e he hb
  have hend : ∀ (ld : Array Bool) (ρ : Ren) (ca : Act) (W : World) (k : Nat), Inv P rec ops.toList pn a ca0 L S ρ0 H W0 ld ρ ca W k → Region.ready .any ops ld = [] → Q .normal ca W := by
    intro ld ρ ca W k I hr
    have hs : ld.size = ops.size := by rw [I.size, hsize]
    have hall : ∀ i, i < ops.toList.length → ld.getD i false = true := by
      intro i
      induction i using Nat.strongRecOn with
      | _ i ih =>
        intro hi
        cases hb : ld.getD i false with
        | true => rfl
        | false =>
          have ho : ops.toList[i]? = some ops.toList[i] := List.getElem?_eq_getElem hi
          have : i ∈ Region.ready .any ops ld := (mem ld hs i).2 ⟨_, ho, hb, fun e he hbi => ih e.on (R.edges i _ ho e he hbi) (by have := R.edges i _ ho e he hbi; omega)⟩
          rw [hr] at this
          cases this
    obtain ⟨h1, h2⟩ := I.fin R Pd hlo hall hm
    exact hQ ρ ca W h1 h2
  intro fuel
  induction fuel with
  | zero =>
    intro ld ρ ca W k I hf
    have hs : ld.size = ops.size := by rw [I.size, hsize]
    have hr : Region.ready .any ops ld = [] := by
      cases hr : Region.ready .any ops ld with
      | nil => rfl
      | cons i l =>
        obtain ⟨o, h1, h2, _⟩ := (mem ld hs i).1 (by rw [hr]; exact List.mem_cons_self)
        have := unl_zero (show unl ld = 0 by omega) i (by rw [hs, ← hsize]; exact lt_of_get h1)
        rw [h2] at this
        cases this
    exact ⟨hr, hend ld ρ ca W k I hr⟩
  | succ fuel ih =>
    intro ld ρ ca W k I hf
    have hs : ld.size = ops.size := by rw [I.size, hsize]
    refine ⟨hend ld ρ ca W k I, fun i hi => ?_⟩
    obtain ⟨o, ho, hn, he⟩ := (mem ld hs i).1 hi
    have hil : i < ld.size := by rw [hs, ← hsize]; exact lt_of_get ho
    obtain ⟨p, hp⟩ := R.place (lt_of_get ho)
    have hc : ∀ x, ((clos ops.toList).getD i 0).testBit x = true → ld.getD x false = true := clo_down R.edges I.down i o ho he
    have hput := R.puts hp ho
    have fuel1 : unl (ld.setIfInBounds i true) ≤ fuel := by
      have := unl_set hil hn
      omega
    have hset : ∀ j, (ld.setIfInBounds i true).getD j false = true ↔ (j = i ∨ ld.getD j false = true) := fun j => by
      simp only [Array.getD_eq_getD_getElem?]
      by_cases e : j = i
      · subst e; simp [hil]
      · rw [Array.getElem?_setIfInBounds_ne (fun h => e h.symm)]
        simp [e]
    have hlook : ∀ t ∈ looks ops.toList o, VR ρ (((S p).a.tm.get t).getD undef) (ca.tmps.getD t undef) := fun t ht => I.look R hp ho hn hc ht
    have ho' : ops[i]? = some o := by simpa using ho
    unfold wpOpIn
    rw [ho']
    simp only
    have hnn := (R.n_eq p (by have := R.lt hp; omega)).1
    have hopE : ∀ x ∈ o.op.operands, OpE (S p).a ca ρ x := fun x hx => by
      intro u hu
      cases x with
      | tmp t =>
        simp only [AAct.eval] at hu
        cases hu
        exact hlook t (List.mem_append_left _ (List.mem_filterMap.2 ⟨.tmp t, by simpa using hx, rfl⟩))
      | const v =>
        simp only [AAct.eval] at hu
        split at hu
        · cases hu; exact gnd_refl _ (by assumption)
        · cases hu
      | global g => simp [AAct.eval] at hu
      | func f =>
        simp only [AAct.eval] at hu
        cases hu
        exact .func rfl (by intro i v v' h; simp at h) rfl (by intro i v v' h; simp at h)
    cases hfl : floatOp o with
    | true =>
      have hog : o.guard = none := by
        unfold floatOp at hfl
        split at hfl <;> first | assumption | (cases hfl; done)
      obtain ⟨o1, v1, H1, F⟩ := R.step p i hp
      have : o1 = o := by have := F.op; rw [ho] at this; cases this; rfl
      subst this
      obtain ⟨q, hq1, hq2, hqr⟩ := F.flo hfl
      obtain ⟨hq3, hq4⟩ := pendOf_ok hq1
      obtain ⟨_, _, o2, b1, b2, b3⟩ := Pd.mem q hq3
      rw [hq4, ho] at b1
      cases b1
      have hb1 : aWanted ops.toList (S p).a o1 = .ok true := by unfold aWanted; rw [hog]
      have hw := wanted_sim (ρ := ρ) (ca := ca) hb1 (by rw [I.tms, hnn]) (fun g w d hg hd => by rw [hog] at hg; cases hg)
      rw [if_pos hw]
      refine float_wp hfl hqr hopE rc n (fun cs t esz zs v' b5 hcs hv' => ?_)
      have hlq : ld.getD q.op false = false := by rw [hq4]; exact hn
      obtain ⟨pl, e1, e2, e3, e4, e5, e6, e7⟩ := PInv.float Pd I.pin I.st hq3 hlq b5 hcs (ld' := ld.setIfInBounds i true) (fun j => by rw [hq4]; exact hset j)
      have hlight : light P o1 = true := by simp [light, hfl]
      refine ih _ _ _ _ k (I.turn R hp ho hn he I.kle hput (fun _ => rfl) (fun h => by rw [hlight] at h; cases h) e5 e6 e7 ?_) fuel1
      rw [F.val, hq2, b3]
      exact hv' _ pl e1 e2 e3
    | false =>
    obtain ⟨k', M', h1, h2, h4, h5, h6⟩ := I.does R Pd hp ho hn hfl hc
    have hsel : ∀ q ∈ pn, ((clos ops.toList).getD i 0).testBit q.op = true → ld.getD q.op false = true := fun q _ hb => hc _ hb
    have hst1 := insert_st (c := (clos ops.toList).getD i 0) Pd hlo I.pin hsel I.st
    have hgo : ∀ ρ' W' v', St ρ ((memAt L S k).ins ((clos ops.toList).getD i 0) pn) W ρ' M' W' → VR ρ' (valAt P rec ops.toList pn S p i) v' → Inv P rec ops.toList pn a ca0 L S ρ0 H W0 (ld.setIfInBounds i true) ρ' (ca.put o.dst v') W' k' := by
      intro ρ' W' v' hst hvr
      have hpin : PInv pn W0 (ld.setIfInBounds i true) ρ' W' (memAt L S k') := by
        refine PInv.step Pd hlo I.pin I.st.rel hsel hst ?_ (fun q hq => ?_)
        · rcases h6 with ⟨e1, e2⟩ | h6
          · exact .inl ⟨e1, e2⟩
          · exact .inr h6
        · have hne : q.op ≠ i := fun e => by
            obtain ⟨oe, he1, he2⟩ := Pd.float hq
            rw [e, ho] at he1
            cases he1
            rw [hfl] at he2; cases he2
          have := hset q.op
          cases h7 : ld.getD q.op false with
          | true => exact this.2 (.inr h7)
          | false =>
            cases h8 : (ld.setIfInBounds i true).getD q.op false with
            | false => rfl
            | true =>
              rcases this.1 h8 with h | h
              · exact absurd h hne
              · rw [h7] at h; cases h
      refine I.turn R hp ho hn he h2 hput h4 h5 hst.le ?_ hpin hvr
      have hst2 := hst1.trans hst
      rcases h6 with ⟨e1, e2⟩ | ⟨e1, _⟩
      · rw [e1]
        subst e2
        exact drop_st hst2 (ins_next _ _ _ _).symm (ins_sub Pd hlo I.pin I.st.rel)
      · rw [e1]; exact hst2
    unfold aDo at h1
    obtain ⟨b, hb1, hb2⟩ := bok h1
    have hw := wanted_sim (ρ := ρ) (ca := ca) hb1 (by rw [I.tms, hnn]) (fun g w d hg hd => hlook d (by
      unfold looks
      rw [hg]
      refine List.mem_append_right _ ?_
      have e : ops.toList[g]? = ops[g]? := by simp
      show d ∈ ((ops.toList[g]?).bind (·.dst)).toList
      rw [e, hd]
      simp))
    cases b with
    | true =>
      rw [if_pos hw]
      simp only [if_true] at hb2
      exact op_wp hrec hst1.rel hopE hb2 rc n (fun ρ' W' v' hst hvr => ih _ ρ' _ W' k' (hgo ρ' W' v' hst hvr) fuel1)
    | false =>
      rw [if_neg (by rw [hw]; simp)]
      simp only [Bool.false_eq_true, if_false] at hb2
      have e1 : undef = valAt P rec ops.toList pn S p i ∧ (memAt L S k).ins ((clos ops.toList).getD i 0) pn = M' := by
        have hb3 := Except.ok.inj hb2
        exact ⟨congrArg Prod.fst hb3, congrArg Prod.snd hb3⟩
      refine ⟨about_any _ (fun f => trivial) o W ca.eval, ih _ ρ _ W k' (hgo ρ W _ ?_ ?_) fuel1⟩
      · rw [← e1.2]; exact St.refl hst1.rel
      · rw [← e1.1]; exact VR.undef _

theorem tmpsRight_spec {os : List Oper} (h : tmpsRight os (clos os) = true) : EdgesBack os ∧
    ∀ (j i : Nat) (o w : Oper) (t : Nat), os[j]? = some o → os[i]? = some w → w.dst = some t → i = j ∨ (o.dst ≠ some t ∧ (t ∉ looks os o ∨ ((clos os).getD j 0).testBit i = true ∨ ((clos os).getD i 0).testBit j = true)) := by
  unfold tmpsRight at h
  have hz : ∀ (j : Nat) (o : Oper), os[j]? = some o → (o, j) ∈ os.zipIdx := fun j o hj => List.mem_zipIdx_iff_getElem?.2 hj
  constructor
  · intro j o hj e he hb
    have := List.all_eq_true.1 h (o, j) (hz j o hj)
    simp only [Bool.and_eq_true] at this
    have := List.all_eq_true.1 this.1 e he
    simpa [hb] using this
  · intro j i o w t hj hi hd
    have := List.all_eq_true.1 h (o, j) (hz j o hj)
    simp only [Bool.and_eq_true] at this
    have := List.all_eq_true.1 this.2 (w, i) (hz i w hi)
    simp only [hd, Bool.or_eq_true, Bool.and_eq_true, beq_iff_eq, bne_iff_ne, Bool.not_eq_true'] at this
    rcases this with h1 | ⟨h1, (h2 | h2) | h2⟩
    · exact .inl h1
    · exact .inr ⟨h1, .inl (by simpa using h2)⟩
    · exact .inr ⟨h1, .inr (.inl h2)⟩
    · exact .inr ⟨h1, .inr (.inr h2)⟩

theorem draw_sim {rec : Rec} (hrec : RecOK P rec) {ops : Array Oper} {a a' : AAct} {ca : Act} {ρ : Ren} {H H' : AH} {W : World} (h : aDraw P rec ops.toList a H = .ok (a', H')) (hR : Rel ρ H W) (hA : AR ρ a ca) (rc : Option Nat) (n : Nat)
    {Q : Exit → Act → World → Prop} (hQ : ∀ ρ' ca' W', St ρ H W ρ' H' W' → AR ρ' a' ca' → Q .normal ca' W') : wpAnyIn (WF rc) n P .any ops Q ops.size (Array.replicate ops.size false) ca W := by
  unfold aDraw at h
  simp only at h
  split at h
  · rename_i htr
    generalize h0 : reserve ops.toList 0 H.next = rs at h
    obtain ⟨ps0, nn⟩ := rs
    obtain ⟨s, h1, h2⟩ := bok h
    split at h2
    · rename_i hd
      cases h2
      obtain ⟨S, e1, e2, e3⟩ := fold_steps _ _ _ h1
      obtain ⟨hb, ht⟩ := tmpsRight_spec htr
      generalize drawOrder P ops.toList (clos ops.toList) = L at e2 e3
      have hag : ∀ d p, p + d = L.length → Agree (S p).done (S p).ps (S L.length).ps := by
        intro d
        induction d with
        | zero =>
          intro p hp
          have : p = L.length := by omega
          subst this; exact Agree.refl _ _
        | succ d ih =>
          intro p hp
          exact dStep_agree (e3 p _ (List.getElem?_eq_getElem (show p < L.length by omega))) (ih (p + 1) (by omega))
      have Pd0 := Pends.of (P := P) h0
      have hag0 := hag L.length 0 (by omega)
      rw [e1] at hag0
      have Pd := Pd0.agree hag0
      have R : Run P rec ops.toList (S L.length).ps a { H with next := nn } L S := ⟨⟨ps0, e1⟩, fun p j hp => dStep_ok (e3 p j hp) (hag (L.length - (p + 1)) (p + 1) (by have := lt_of_get hp; omega)), hb, ht, by rw [e2]; exact hd⟩
      have hf : ∀ i, (Array.replicate ops.size false).getD i false = false := fun i => by
        simp only [Array.getD_eq_getD_getElem?, Array.getElem?_replicate]
        split <;> rfl
      have hz0 : (S 0).chs.length = 0 := by rw [e1]; rfl
      refine draw_go hrec R Pd hR.nxt hA.marks rc n (W0 := W) (fun ρ' ca' W' hst ha => hQ ρ' ca' W' (by rw [← e2]; exact hst) (by rw [← e2]; exact ha)) ops.size _ ρ ca W 0 ?_ ?_
      · refine ⟨by simp, fun j o hj => ?_, fun p j o hp hj hc => ?_, Nat.zero_le _, ?_, ?_, hA.tm.1, rfl, fun p j o t _ _ _ hl => ?_, fun t _ => hA.tm.2 t⟩
        · simp only [hf] at hj; cases hj
        · rw [hf]; simp
        · have := R.memAt_self (p := 0) (Nat.zero_le _)
          rw [hz0, e1] at this
          rw [this]
          refine ⟨Ren.le_refl ρ, ⟨fun i p hi => ?_, trivial, hR.obj, hR.share⟩, Pd.le, Nat.le_refl _, fun b _ hb => ⟨rfl, hb⟩, rfl, rfl, rfl, fun _ _ => rfl, fun _ _ hb => hb⟩
          have := hR.dom i p hi
          have := Pd.le
          show i < nn
          omega
        · have := R.memAt_self (p := 0) (Nat.zero_le _)
          rw [hz0, e1] at this
          rw [this]
          have hnone : ∀ p ∈ (S L.length).ps, ρ p.id = none := fun p hp => by
            cases hc : ρ p.id with
            | none => rfl
            | some pl =>
              have := hR.dom _ _ hc
              have := (Pd.mem p hp).1
              omega
          refine ⟨fun p _ hl => ?_, fun p hp _ => hnone p hp, fun p hp => (Pd.mem p hp).2.1, fun p _ hg => ?_, fun p hp q _ _ pl pl' h1 _ => ?_⟩
          · rw [hf] at hl; cases hl
          · simp at hg
          · rw [hnone p hp] at h1; cases h1
        · rw [hf] at hl; cases hl
      · have : ∀ l : List Bool, l.countP (fun b => !b) ≤ l.length := fun l => List.countP_le_length
        have h3 := this (Array.replicate ops.size false).toList
        unfold unl
        simpa using h3
    · cases h2
  · cases h

end
end Go.Eng
