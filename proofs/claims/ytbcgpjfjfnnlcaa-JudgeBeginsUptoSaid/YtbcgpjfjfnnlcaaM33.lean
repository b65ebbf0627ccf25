/-
  A row of one's own that is written no more: its pointer becomes one into what stays. Pointers that may be nil.
-/
import Derived.Test.YtbcgpjfjfnnlcaaM32
set_option linter.unusedSimpArgs false
set_option linter.unusedVariables false
namespace Go.Eng
noncomputable section
variable {P : Program} {O : Orc}

/-- a value, where row k stays from now on -/
def fz1 (k : Nat) (cs : List PV) : PV → Option PV
  | .val v => some (.val v)
  | .list sz l t => some (.list sz l t)
  | .eptr c o => some (.eptr c o)
  | .ptr j o => (match Nat.beq j k with
    | true => some (.eptr cs o)
    | false => some (.ptr j o))
  | .sl j o n c => (match Nat.beq j k with
    | true => none
    | false => some (.sl j o n c))
  | .mp j => (match Nat.beq j k with
    | true => none
    | false => some (.mp j))
  | _ => none
def fzRow (k : Nat) (cs : List PV) (R : PRow) : Option PRow := match mapO (fz1 k cs) R.cells with
  | some m => some ⟨R.esz, m⟩
  | none => none
def fzTm (s : PS) (k : Nat) (cs : List PV) (y : Nat × PV) : Option PV := match s.tm.get y.1 with
  | some p => fz1 k cs p
  | none => none

def Env.cut (e : Env) (k : Nat) : Env := ⟨e.rows.take k, e.toks, e.X⟩

section
variable {e : Env} {fr : List PRow} {tk : List Nat} {H : AH} {k : Nat}

theorem stay_cut {id fam en : Nat} (h : Stay e tk H id fam en) : Stay (e.cut k) tk H id fam en :=
  ⟨h.lt, h.flt, h.x, fun hm => h.row (List.mem_of_mem_take hm), h.tok⟩

theorem cut_at {j id : Nat} (h : e.rows[j]? = some id) (hj : j < k) : (e.cut k).rows[j]? = some id := by
  show (e.rows.take k)[j]? = _
  rw [List.getElem?_take, if_pos hj]; exact h
theorem of_cut {j id : Nat} (h : (e.cut k).rows[j]? = some id) : e.rows[j]? = some id ∧ j < k := by
  have h' : (e.rows.take k)[j]? = some id := h
  rw [List.getElem?_take] at h'
  split at h'
  · exact ⟨h', by assumption⟩
  · cases h'

theorem fz_rv {R : PRow} {cs : List PV} (hI : HInv e fr tk H) (hlen : fr.length = k + 1) (hR : fr[k]? = some R) (hz : Nat.beq R.esz mapE = false) (hl : lows R.cells = some cs) (hX : ∀ id en, e.rows[k]? = some id → e.X id id en) {p q : PV} {v : Value} (h : RV e tk H true p v) (hq : fz1 k cs p = some q) : RV (e.cut k) tk H true q v := by
  have hlt : ∀ {j id : Nat}, e.rows[j]? = some id → Nat.beq j k = false → j < k := fun {j id} hj hb => by
    have h1 := lt_of_get hj
    rw [hI.rlen, hlen] at h1
    have : j ≠ k := fun e1 => by subst e1; rw [Nat.beq_refl] at hb; cases hb
    omega
  cases p with
  | val u => cases hq; cases h with | val hv => exact .val hv
  | list sz l t =>
    cases hq
    cases h with
    | lnil ht => exact .lnil fun k' hk => ht k' hk
    | list w hr hn hst he hc hw hz' hp hv hh ht => exact .list w hr hn (stay_cut hst) he hc hw hz' hp hv (fun i c j p hi hj => (hh i c j p hi hj).env fun _ _ _ => stay_cut) fun k' hk => ht k' hk
  | eptr c o => cases hq; cases h with | eptr w hr hn hst hv hh => exact .eptr w hr hn (stay_cut hst) hv fun j p hj => (hh j p hj).env fun _ _ _ => stay_cut
  | sl j o n c =>
    cases h with
    | sl hk =>
      simp only [fz1] at hq
      cases hb : Nat.beq j k with
      | true => rw [hb] at hq; cases hq
      | false => rw [hb] at hq; cases hq; exact .sl (cut_at hk (hlt hk hb))
  | mp j =>
    cases h with
    | mp hk =>
      simp only [fz1] at hq
      cases hb : Nat.beq j k with
      | true => rw [hb] at hq; cases hq
      | false => rw [hb] at hq; cases hq; exact .mp (cut_at hk (hlt hk hb))
  | ptr j o =>
    cases h with
    | @ptr _ _ id hk =>
      simp only [fz1] at hq
      cases hb : Nat.beq j k with
      | false => rw [hb] at hq; cases hq; exact .ptr (cut_at hk (hlt hk hb))
      | true =>
        rw [hb] at hq; cases hq
        have e1 : j = k := Nat.eq_of_beq_eq_true hb
        subst e1
        obtain ⟨r, vs, h2, h3, h4, h5, h6, h7, h8⟩ := (hI.row j id R hk hR).row hz
        obtain ⟨h9, _⟩ := lows_rv h8 hl
        have main : RV (e.cut j) tk H true (.eptr cs o) (.pointer (some ⟨id, 0 + o, none⟩)) := by
          refine .eptr (n := cs.length) (fun i => vs.getD i default) h2 (by omega) ⟨hI.wf.lt _ _ h2, by rw [h6]; exact hI.wf.lt _ _ h2, by rw [h6]; exact hX id _ hk, fun hm => ?_, fun t τ n a1 a2 a3 => ?_⟩ (fun i p hi => ?_) (fun i p hi => ?_)
          · obtain ⟨i, hi, hi'⟩ := List.mem_iff_getElem.1 hm
            have h10 := List.getElem?_eq_getElem hi
            rw [hi'] at h10
            obtain ⟨h11, h12⟩ := of_cut h10
            have := hI.rnd i j id h11 hk
            omega
          · exact absurd (by rw [← a3, h6]; exact List.mem_of_getElem? hk) (hI.tfr t τ a1)
          · obtain ⟨v, hv⟩ := get_of_lt (l := vs) (i := i) (by rw [← h9.1]; exact lt_of_get hi)
            rw [h7, Nat.zero_add, List.getElem?_map, List.getD_eq_getElem?_getD, hv]; rfl
          · obtain ⟨v, hv⟩ := get_of_lt (l := vs) (i := i) (by rw [← h9.1]; exact lt_of_get hi)
            show RV _ _ _ _ _ (vs.getD i default)
            rw [List.getD_eq_getElem?_getD, hv]
            exact (h9.2 i p v hi hv).env fun _ _ _ => stay_cut
        rw [Nat.zero_add] at main
        exact main
  | agg l => cases hq
  | tup l => cases hq
  | fn f l m => cases hq
  | iface t p => cases hq
end

theorem Weak.freeze {s : PS} (k : Nat) {R : PRow} {cs : List PV} {es : List (Nat × PV)} {fr' : List PRow} (hR0 : s.fr[k]? = some R)
    (h : (Nat.beq s.fr.length (k + 1), Nat.ble s.r0 k, Nat.beq R.esz mapE, lows R.cells, mapO (fzRow k cs) (s.fr.take k), mapO (fzTm s k cs) es) = (true, true, false, some cs, some fr', some (es.map Prod.snd))) : Weak s (PS.ofm s.ms s.n es fr' s.tk s.r0 s.t0) := fun C e a H hR => by
  simp only [Prod.mk.injEq] at h
  obtain ⟨q1, q2, q3, q4, q5, q6⟩ := h
  have q1 := Nat.eq_of_beq_eq_true q1
  have q2 := Nat.le_of_ble_eq_true q2
  have hI := hR.h.inv
  obtain ⟨m1, m2⟩ := mapO_at q5
  obtain ⟨t1, t2⟩ := mapO_at q6
  obtain ⟨new, n1, n2⟩ := hR.h.ext.rows
  have hr0 := hR.r0
  have hkl : k < e.rows.length := by rw [hI.rlen, q1]; omega
  have hX : ∀ id en, e.rows[k]? = some id → e.X id id en := fun id en hk => by
    have hn : C.H0.next ≤ id := by
      rw [n1, List.getElem?_append_right (by omega)] at hk
      exact n2 id (List.mem_of_getElem? hk)
    exact hR.h.x.new id id en hn hn
  have fz : ∀ {p q : PV} {v : Value}, RV e s.tk H true p v → fz1 k cs p = some q → RV (e.cut k) s.tk H true q v := fun hp hq => fz_rv hI q1 hR0 q3 q4 hX hp hq
  have htl : (s.fr.take k).length = k := by rw [List.length_take, q1]; omega
  refine ⟨e.cut k, ⟨⟨hI.wf, ?_, fun i j id hi hj => hI.rnd i j id (of_cut hi).1 (of_cut hj).1, fun j id R' hj hR' => ?_, hI.tlen, hI.tsep, hI.tlt, fun t τ ht hm => hI.tfr t τ ht (List.mem_of_mem_take hm)⟩, ⟨⟨new.take (k - C.ids.length), ?_, fun id hid => n2 id (List.mem_of_mem_take hid)⟩, hR.h.ext.tok, hR.h.ext.old, hR.h.ext.lim⟩, hR.h.frame, hR.h.cw, ⟨hR.h.x.new, hR.h.x.tok⟩, hR.h.x0⟩, hR.n, hR.marks, hR.r0, hR.t0, fun t q hq => ?_⟩
  · show (e.rows.take k).length = fr'.length
    rw [← m1, htl, List.length_take]; omega
  · obtain ⟨h1, h2⟩ := of_cut hj
    obtain ⟨R1, hR1⟩ := get_of_lt (l := s.fr) (i := j) (by omega)
    have h3 := m2 j R1 R' (by rw [List.getElem?_take, if_pos h2]; exact hR1) hR'
    unfold fzRow at h3
    cases hm : mapO (fz1 k cs) R1.cells with
    | none => rw [hm] at h3; cases h3
    | some m =>
      rw [hm] at h3; cases h3
      obtain ⟨c1, c2⟩ := mapO_at hm
      refine (hI.row j id R1 h1 hR1).stay rfl rfl (fun us h8 => ⟨c1.symm.trans h8.1, fun i q v hi hv => ?_⟩) (fun sz l hl => ?_)
      · obtain ⟨p, hp⟩ := get_of_lt (l := R1.cells) (i := i) (by rw [c1]; exact lt_of_get hi)
        exact fz (h8.2 i p v hp hv) (c2 i p q hp hi)
      · show m = R1.cells
        rw [hl] at hm ⊢; cases hm; rfl
  · show e.rows.take k = _
    rw [n1, List.take_append, List.take_of_length_le (by omega)]
  · have hm := of_get es t q hq
    obtain ⟨i, hi, hi'⟩ := List.mem_iff_getElem.1 hm
    have h1 : es[i]? = some (t, q) := by rw [List.getElem?_eq_getElem hi, hi']
    have h2 := t2 i (t, q) q h1 (by rw [List.getElem?_map, h1]; rfl)
    unfold fzTm at h2
    cases hg : s.tm.get t with
    | none => simp only [hg] at h2; cases h2
    | some p =>
      simp only [hg] at h2
      obtain ⟨v, k4, k5⟩ := hR.tm t p hg
      exact ⟨v, k4, fz k5 h2⟩

/-- a cell that speaks of no row behind the k-th -/
def NoR (k : Nat) (p : PV) : Prop := ∀ cs, fz1 k cs p = some p
theorem noR_val {k : Nat} {v : Value} : NoR k (.val v) := fun _ => rfl
theorem noR_list {k sz : Nat} {l : List (List PV)} {t : Option Nat} : NoR k (.list sz l t) := fun _ => rfl
theorem noR_ptr {k j o : Nat} (h : Nat.beq j k = false) : NoR k (.ptr j o) := fun cs => by show (match Nat.beq j k with | true => some (PV.eptr cs o) | false => some (.ptr j o)) = _; rw [h]
theorem noR_mp {k j : Nat} (h : Nat.beq j k = false) : NoR k (.mp j) := fun cs => by show (match Nat.beq j k with | true => none | false => some (PV.mp j)) = _; rw [h]
theorem fz_ptr {k o : Nat} {cs : List PV} : fz1 k cs (.ptr k o) = some (.eptr cs o) := by
  show (match Nat.beq k k with | true => some (PV.eptr cs o) | false => some (.ptr k o)) = _
  rw [Nat.beq_refl]
def FzL (s : PS) (k : Nat) (cs : List PV) : List (Nat × PV) → Prop
  | [] => True
  | (t, q) :: l => (∃ p, s.tm.get t = some p ∧ fz1 k cs p = some q) ∧ FzL s k cs l
theorem FzL.ok {s : PS} {k : Nat} {cs : List PV} : ∀ {es : List (Nat × PV)}, FzL s k cs es → mapO (fzTm s k cs) es = some (es.map Prod.snd)
  | [], _ => rfl
  | (t, q) :: l, h => by
    obtain ⟨⟨p, h1, h2⟩, h3⟩ := h
    simp only [mapO, List.map_cons, fzTm, h1, h2, h3.ok]
theorem fzRow_self {k : Nat} {cs : List PV} {R : PRow} (h : ∀ p ∈ R.cells, NoR k p) : fzRow k cs R = some R := by
  have : mapO (fz1 k cs) R.cells = some R.cells := by
    have key : ∀ l : List PV, (∀ p ∈ l, NoR k p) → mapO (fz1 k cs) l = some l := fun l => by
      induction l with
      | nil => exact fun _ => rfl
      | cons p l ih => exact fun h => by simp only [mapO, h p List.mem_cons_self cs, ih fun q hq => h q (List.mem_cons_of_mem _ hq)]
    exact key _ h
  unfold fzRow
  rw [this]
theorem fzRows_self {k : Nat} {cs : List PV} : ∀ {l : List PRow}, (∀ R ∈ l, ∀ p ∈ R.cells, NoR k p) → mapO (fzRow k cs) l = some l
  | [], _ => rfl
  | R :: l, h => by simp only [mapO, fzRow_self (h R List.mem_cons_self), fzRows_self fun R' hR' => h R' (List.mem_cons_of_mem _ hR')]
theorem set_new {α : Type} {x y : α} : ∀ {l : List α}, (l ++ [x]).set l.length y = l ++ [y]
  | [] => rfl
  | a :: l => by rw [List.cons_append, List.length_cons, List.set_cons_succ, set_new, List.cons_append]
theorem Weak.keep {s : PS} {fr' : List PRow} {ez : Nat} {cells cs : List PV} {es : List (Nat × PV)} (hfr : s.fr = fr' ++ [⟨ez, cells⟩]) (hz : Nat.beq ez mapE = false) (hl : lows cells = some cs) (hr0 : s.r0 ≤ fr'.length) (hno : ∀ R ∈ fr', ∀ p ∈ R.cells, NoR fr'.length p) (hes : FzL s fr'.length cs es) : Weak s (PS.ofm s.ms s.n es fr' s.tk s.r0 s.t0) :=
  Weak.freeze fr'.length (R := ⟨ez, cells⟩) (cs := cs) (by rw [hfr]; exact get_app_new) (by
    rw [hfr, List.take_left, fzRows_self hno, hes.ok, List.length_append, hl]
    simp only [List.length_singleton, Nat.beq_refl, hz, Prod.mk.injEq, and_self, and_true, true_and, Nat.beq_eq]
    exact Nat.ble_eq ▸ hr0)

def guardS {β : Type} (n : Nat) (x : Option β) : Option β := bif decide (n < 4611686018427387904) then x else none
theorem guardS_some {β : Type} {n : Nat} {x : Option β} {r : β} (h : guardS n x = some r) : n < 4611686018427387904 ∧ x = some r := by
  unfold guardS at h
  cases hb : decide (n < 4611686018427387904) with
  | true => rw [hb] at h; exact ⟨of_decide_eq_true hb, h⟩
  | false => rw [hb] at h; cases h

/-! ### A pointer that may be nil -/
def optE {α : Type} (c : α → List PV) : Option α → PV
  | none => .val (.pointer none)
  | some x => .eptr (c x) 0

theorem oe_to {α : Type} {c : α → List PV} {o : Option α} {f g : Nat → Option Nat} {n : Nat} : PV.to f g (n + 1) (optE c o) = some (optE c o) := by cases o <;> rfl
theorem noR_oe {α : Type} {c : α → List PV} {o : Option α} {k : Nat} : NoR k (optE c o) := fun _ => by cases o <;> rfl

section ops
variable {s : PS} {d : Option Tmp} {ty : TypeId} {pst : String} {af : Array Edge} {gu : Option (Nat × Bool)} {α : Type} {c : α → List PV} {o : Option α} {t t2 tu : TypeId} {x w : Operand}

theorem nilO_ok {y : α} (hx : s.ev x = some (optE c o)) (hy : o = some y) : OpSame P O s ⟨d, .nilCheck x, ty, pst, af, gu⟩ (.eptr (c y) 0) := by
  subst hy
  exact ⟨rfl, fun C e a H hR => by
    obtain ⟨u, h1, h2⟩ := hR.ev hx
    cases h2 with
    | eptr w hr hn hst hv hh =>
      refine ⟨0, _, ?_, .eptr w hr hn hst hv hh⟩
      simp only [aOp, AAct.ev_eval h1, bind, Except.bind]⟩
theorem neO_ok (ht : P.underlying t = some (.pointer tu)) (hx : s.ev x = some (optE c o)) (hw : s.ev w = some (.val (.pointer none))) (hnn : aBin P .neq t x w (.pointer none) (.pointer none) = .ok (.bool false)) : OpSame P O s ⟨d, .binOp .neq t x w t2, ty, pst, af, gu⟩ (vB o.isSome) := by
  refine ⟨rfl, fun C e a H hR => ?_⟩
  obtain ⟨u, h1, h2⟩ := hR.ev hx
  obtain ⟨v, h3, h4⟩ := hR.ev hw
  refine ⟨0, .bool o.isSome, ?_, .val rfl⟩
  have e3 := h4.bool_inv; subst e3
  have pn : ∀ ad, aBin P .neq t x w (.pointer (some ad)) (.pointer none) = .ok (.bool true) := fun ad => by
    obtain ⟨b, o, sp⟩ := ad
    simp [aBin, gnd, nilness, nilFits, ht]
  simp only [aOp, AAct.ev_eval h1, AAct.ev_eval h3, bind, Except.bind]
  cases o with
  | none =>
    have e1 := h2.bool_inv; subst e1
    simp only [bothPtr, Bool.false_eq_true, if_false, hnn]; rfl
  | some y =>
    cases h2 with
    | eptr w hr hn hst hv hh => simp only [bothPtr, Bool.false_eq_true, if_false, pn]; rfl
end ops
end
end Go.Eng
