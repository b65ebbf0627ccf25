/-
  Weakening; calls.
-/
import Derived.Test.YtbcgpjfjfnnlcaaM10
set_option linter.unusedSimpArgs false
set_option linter.unusedVariables false
namespace Go.Eng
noncomputable section
variable {P : Program} {O : Orc}

/-! ### Weakening -/
theorem RelA.sel {C : Ctx} {e : Env} {s : PS} {a : AAct} {H : AH} (hR : RelA C e s a H) {ks ts : List Nat} (hk : SelOK s.r0 s.fr.length ks) (ht : SelOK s.t0 s.tk.length ts) {fr1 : List PRow} (hfl : ks.length = fr1.length)
    (hfr : ∀ (i k : Nat) (R : PRow), ks[i]? = some k → fr1[i]? = some R → SelRow s.fr (idx ks) (idx ts) k R) {tm1 : T PV} (htm : ∀ (t : Nat) (q : PV), tm1.get t = some q → ∃ p, s.tm.get t = some p ∧ PV.to (idx ks) (idx ts) 4 p = some q) :
    RelA C (e.sel ks ts e.X) ⟨tm1, s.n, fr1, pickN s.tk ts, s.r0, s.t0, s.ms⟩ a H := by
  have h := hR.h.inv
  have hX : ∀ id fam en, Stay e s.tk H id fam en → e.X id fam en := fun id fam en hs => hs.x
  have hsel := sel_mk h hk ht hX
  have hrl : ∀ (i k : Nat), ks[i]? = some k → k < e.rows.length := fun i k hi => by rw [h.rlen]; exact hk.lt i k hi
  have htl : ∀ (i k : Nat), ts[i]? = some k → k < e.toks.length := fun i k hi => by rw [h.tlen]; exact ht.lt i k hi
  obtain ⟨new0, hn1, hn2⟩ := hR.h.ext.rows
  have hcr := hR.r0
  have hct := hR.t0
  refine ⟨⟨hinv_sel h hk ht hX hfl hfr, ⟨⟨(pickN e.rows ks).drop s.r0, ?_, fun id hid => ?_⟩, fun t τ h1 => ?_, fun t τ h1 => ?_, fun t n h1 => ?_⟩, hR.h.frame, hR.h.cw, ⟨hR.h.x.new, fun t τ id en h1 h2 => ?_⟩, hR.h.x0⟩, hR.n, hR.marks, hR.r0, hR.t0, fun t q h1 => ?_⟩
  · show pickN e.rows ks = _
    have : (pickN e.rows ks).take s.r0 = C.ids := by
      apply List.ext_getElem?
      intro i
      rw [List.getElem?_take]
      split
      · rename_i hi
        obtain ⟨x, hx⟩ := get_of_lt (l := C.ids) (i := i) (by omega)
        rw [hx]
        exact pickN_at (hk.pre i hi) (by rw [hn1]; exact get_app_old hx)
      · rw [List.getElem?_eq_none (by omega)]
    rw [← this]; exact (List.take_append_drop _ _).symm
  · obtain ⟨i, hi, hi'⟩ := List.mem_iff_getElem.1 hid
    have h2 : (pickN e.rows ks)[s.r0 + i]? = some id := by
      have := List.getElem?_eq_getElem hi
      rw [hi', List.getElem?_drop] at this
      exact this
    obtain ⟨k, k1, k2⟩ := pickN_inv hrl h2
    have hk0 : s.r0 ≤ k := by
      rcases Nat.lt_or_ge k s.r0 with h3 | h3
      · have := hk.nd _ _ _ k1 (hk.pre k h3); omega
      · exact h3
    rw [hn1, List.getElem?_append_right (by omega)] at k2
    exact hn2 id (List.mem_of_getElem? k2)
  · obtain ⟨k, k1, k2⟩ := pickT_inv htl h1
    rcases hR.h.ext.tok k τ k2 with h3 | h3
    · have hk0 : k < s.t0 := by rw [← hct]; exact lt_of_get h3
      have := ht.nd _ _ _ k1 (ht.pre k hk0)
      subst this
      exact .inl h3
    · exact .inr h3
  · have hk0 : t < s.t0 := by rw [← hct]; exact lt_of_get h1
    exact pickT_at (ht.pre t hk0) (hR.h.ext.old t τ h1)
  · have hk0 : t < s.t0 := by rw [← hct, hR.h.cw.len]; exact lt_of_get h1
    obtain ⟨n', h2, h3, h4⟩ := hR.h.ext.lim t n h1
    refine ⟨n', pickN_at (ht.pre t hk0) h2, h3, fun h5 => ?_⟩
    rw [← h4 h5]
    obtain ⟨x, hx⟩ := get_of_lt (l := e.toks) (i := t) (by rw [h.tlen]; exact lt_of_get h2)
    rw [hx]; exact pickT_at (ht.pre t hk0) hx
  · obtain ⟨k, k1, k2⟩ := pickT_inv htl h1
    exact hR.h.x.tok k τ id en k2 h2
  · obtain ⟨p, h2, h3⟩ := htm t q h1
    obtain ⟨v, h4, h5⟩ := hR.tm t p h2
    exact ⟨v, h4, h5.sel hsel 4 h3⟩

def Env.nils (e : Env) (nn : Nat) : Env := { e with toks := e.toks ++ List.replicate nn none }

theorem RelA.nils {C : Ctx} {a : AAct} {H : AH} : ∀ (nn : Nat) {e : Env} {s : PS}, RelA C e s a H → RelA C (e.nils nn) (s.mem s.fr (s.tk ++ List.replicate nn 0)) a H
  | 0, e, s, hR => by simpa [PS.mem, Env.nils] using hR
  | nn + 1, e, s, hR => by
    have h1 := RelA.nils nn hR.nilTok.1
    have e1 : (e.tok none).nils nn = e.nils (nn + 1) := by simp [Env.nils, Env.tok, List.replicate_succ]
    have e2 : (s.tk ++ [0] ++ List.replicate nn 0) = s.tk ++ List.replicate (nn + 1) 0 := by simp [List.replicate_succ]
    rw [e1] at h1
    have h2 : RelA C (e.nils (nn + 1)) (s.mem s.fr (s.tk ++ [0] ++ List.replicate nn 0)) a H := h1
    rw [e2] at h2
    exact h2

/-- less is said of a value -/
inductive Less (lo hi : Nat) : PV → PV → Prop
  | refl (p : PV) : Less lo hi p p
  | tok (sz : Nat) (l : List (List PV)) (t : Option Nat) : Less lo hi (.list sz l t) (.list sz l none)
  | nil (sz : Nat) : Less lo hi (.val (.slice none 0 0)) (.list sz [] none)
  | nilt (sz k : Nat) (h1 : Nat.ble lo k = true) (h2 : Nat.ble (k + 1) hi = true) : Less lo hi (.val (.slice none 0 0)) (.list sz [] (some k))
  | agg {l m : List PV} (hl : l.length = m.length) (h : ∀ (i : Nat) (p q : PV), l[i]? = some p → m[i]? = some q → Less lo hi p q) : Less lo hi (.agg l) (.agg m)
  | tup {l m : List PV} (hl : l.length = m.length) (h : ∀ (i : Nat) (p q : PV), l[i]? = some p → m[i]? = some q → Less lo hi p q) : Less lo hi (.tup l) (.tup m)

theorem Less.list_none {lo hi sz : Nat} {l : List (List PV)} {q : PV} (h : Less lo hi (.list sz l none) q) : q = .list sz l none := by
  cases h <;> rfl
theorem less_list {lo hi : Nat} {m m' : List PV} (h : m.length = m'.length ∧ ∀ (i : Nat) (p q : PV), m[i]? = some p → m'[i]? = some q → Less lo hi p q) {sz : Nat} {l : List (List PV)} (hl : m = [.list sz l none]) : m' = m := by
  subst hl
  match m', h with
  | [q], h => rw [(h.2 0 _ q rfl rfl).list_none]

theorem RV.wk {e : Env} {tk : List Nat} {H : AH} {lo hi : Nat} (hn : ∀ k, lo ≤ k → k < hi → NilLinked e tk k) {p q : PV} (hw : Less lo hi p q) : ∀ {v : Value}, RV e tk H true p v → RV e tk H true q v := by
  induction hw with
  | refl p => exact fun h => h
  | tok sz l t =>
    intro v h
    cases h with
    | lnil ht => exact .lnil (fun k hk => by cases hk)
    | list w hr hn hs he hc hw hz hp hv hh ht => exact .list w hr hn hs he hc hw hz hp hv hh (fun k hk => by cases hk)
  | nil sz => intro v h; exact nil_list h
  | nilt sz k h1 h2 =>
    intro v h
    rw [Nat.ble_eq] at h1 h2
    rw [h.bool_inv]
    exact .lnil fun k' hk' => by cases hk'; exact ⟨rfl, hn k h1 h2⟩
  | agg hl _ ih =>
    intro v h
    cases h with
    | @agg _ _ vs hl' hh =>
      refine .agg (hl.symm.trans hl') fun i q v hi hv => ?_
      obtain ⟨p, hp⟩ := get_of_lt (i := i) (by rw [hl]; exact lt_of_get hi)
      exact ih i p q hp hi (hh i p v hp hv)
  | tup hl _ ih =>
    intro v h
    cases h with
    | @tup _ _ vs hl' hh =>
      refine .tup (hl.symm.trans hl') fun i q v hi hv => ?_
      obtain ⟨p, hp⟩ := get_of_lt (i := i) (by rw [hl]; exact lt_of_get hi)
      exact ih i p q hp hi (hh i p v hp hv)

def PS.ofm (ms : List (Option Tmp)) (n : Nat) (es : List (Nat × PV)) (fr : List PRow) (tk : List Nat) (r0 t0 : Nat) : PS := ⟨es.foldr (fun (i, v) t => T.put (Nat.succ i) t i v) (T.full 10), n, fr, tk, r0, t0, ms⟩
@[reducible] def PS.of (n : Nat) (es : List (Nat × PV)) (fr : List PRow) (tk : List Nat) (r0 t0 : Nat) : PS := PS.ofm [] n es fr tk r0 t0

theorem of_get : ∀ (es : List (Nat × PV)) (t : Nat) (p : PV), (es.foldr (fun (x : Nat × PV) t => T.put (Nat.succ x.1) t x.1 x.2) (T.full 10)).get t = some p → (t, p) ∈ es
  | [], t, p, h => by
    have h' : (T.full 10 : T PV).get t = some p := h
    rw [T.get_full] at h'; cases h'
  | (k, q) :: es, t, p, h => by
    simp only [List.foldr_cons] at h
    rw [T.get_put'] at h
    split at h
    · rename_i e1; cases h; rw [e1]; exact List.mem_cons_self
    · exact List.mem_cons_of_mem _ (of_get es t p h)

def SelTm (s : PS) (ks ts : List Nat) (nn : Nat) : List (Nat × PV) → Prop
  | [] => True
  | (t, q) :: l => (∃ p p1, s.tm.get t = some p ∧ PV.to (idx ks) (idx ts) 4 p = some p1 ∧ Less ts.length (ts.length + nn) p1 q) ∧ SelTm s ks ts nn l
def LessL (lo hi : Nat) (l m : List PV) : Prop := L2 (Less lo hi) l m
theorem LessL.refl {lo hi : Nat} (l : List PV) : LessL lo hi l l := ⟨rfl, fun i x y hx hy => by rw [hx] at hy; cases hy; exact .refl x⟩
theorem LessL.cons {lo hi : Nat} {p q : PV} {l m : List PV} (h : Less lo hi p q) (hl : LessL lo hi l m) : LessL lo hi (p :: l) (q :: m) := L2.cons h hl
def SelFr (s : PS) (ks ts : List Nat) (nn : Nat) : List Nat → List PRow → Prop
  | [], [] => True
  | k :: l, R :: fr' => (∃ R0 cs, s.fr[k]? = some R0 ∧ R.esz = R0.esz ∧ mapO (PV.to (idx ks) (idx ts) 4) R0.cells = some cs ∧ LessL ts.length (ts.length + nn) cs R.cells) ∧ SelFr s ks ts nn l fr'
  | _, _ => False

theorem SelTm.at {s : PS} {ks ts : List Nat} {nn : Nat} : ∀ {es : List (Nat × PV)} {t : Nat} {q : PV}, SelTm s ks ts nn es → (t, q) ∈ es → ∃ p p1, s.tm.get t = some p ∧ PV.to (idx ks) (idx ts) 4 p = some p1 ∧ Less ts.length (ts.length + nn) p1 q
  | (t', q') :: es, t, q, h, hm => by
    rcases List.mem_cons.1 hm with e1 | hm
    · cases e1; exact h.1
    · exact SelTm.at h.2 hm

theorem SelFr.at {s : PS} {ks ts : List Nat} {nn : Nat} : ∀ {l : List Nat} {fr' : List PRow}, SelFr s ks ts nn l fr' → l.length = fr'.length ∧ ∀ (i k : Nat) (R : PRow), l[i]? = some k → fr'[i]? = some R → ∃ R0 cs, s.fr[k]? = some R0 ∧ R.esz = R0.esz ∧ mapO (PV.to (idx ks) (idx ts) 4) R0.cells = some cs ∧ LessL ts.length (ts.length + nn) cs R.cells
  | [], [], _ => ⟨rfl, fun i k R h => by simp at h⟩
  | k :: l, R :: fr', h => by
    obtain ⟨h1, h2⟩ := SelFr.at h.2
    refine ⟨by simp [h1], fun i k' R' hi hR => ?_⟩
    cases i with
    | zero => simp at hi hR; subst hi; subst hR; exact h.1
    | succ i => exact h2 i k' R' (by simpa using hi) (by simpa using hR)
  | [], _ :: _, h => h.elim
  | _ :: _, [], h => h.elim

/-- all that one state says, another one says too -/
def Weak (s s' : PS) : Prop := ∀ C e a H, RelA C e s a H → ∃ e', RelA C e' s' a H

theorem Weak.mk {s : PS} (ks ts : List Nat) (nn : Nat) {es : List (Nat × PV)} {fr' : List PRow} {tk' : List Nat} (hk : selB s.r0 s.fr.length ks = true) (ht : selB s.t0 s.tk.length ts = true) (htk : pickN s.tk ts ++ List.replicate nn 0 = tk')
    (hfr : SelFr s ks ts nn ks fr') (hes : SelTm s ks ts nn es) : Weak s (PS.ofm s.ms s.n es fr' tk' s.r0 s.t0) := by
  intro C e a H hR
  subst htk
  have hk' := selB_ok hk
  have ht' := selB_ok ht
  obtain ⟨hfl, hfa⟩ := hfr.at
  -- the state between: what is picked, as it is
  have hfr1 : ∃ fr1 : List PRow, fr1.length = ks.length ∧ ∀ (i k : Nat) (R : PRow), ks[i]? = some k → fr1[i]? = some R → SelRow s.fr (idx ks) (idx ts) k R ∧ ∀ R', fr'[i]? = some R' → R'.esz = R.esz ∧ LessL ts.length (ts.length + nn) R.cells R'.cells := by
    refine ⟨(List.range ks.length).map fun i => match ks[i]? with
      | some k => match s.fr[k]? with
        | some R0 => match mapO (PV.to (idx ks) (idx ts) 4) R0.cells with
          | some cs => ⟨R0.esz, cs⟩
          | none => ⟨0, []⟩
        | none => ⟨0, []⟩
      | none => ⟨0, []⟩, by simp, fun i k R hi hR' => ?_⟩
    have hlt := lt_of_get hi
    obtain ⟨R', hR2⟩ := get_of_lt (l := fr') (i := i) (by rw [← hfl]; exact hlt)
    obtain ⟨R0, cs, h1, h2, h3, h4⟩ := hfa i k R' hi hR2
    rw [List.getElem?_map, List.getElem?_range hlt] at hR'
    simp only [Option.map_some, hi, h1, h3, Option.some.injEq] at hR'
    subst hR'
    refine ⟨⟨R0, h1, rfl, h3⟩, fun R'' hR'' => ?_⟩
    rw [hR2] at hR''; cases hR''
    exact ⟨h2, h4⟩
  obtain ⟨fr1, hl1, hf1⟩ := hfr1
  -- the temporaries between
  have h1 := hR.sel hk' ht' (fr1 := fr1) (by rw [hl1]) (fun i k R hi hR' => (hf1 i k R hi hR').1) (tm1 := .nil) (fun t q h => by cases h)
  have hX : ∀ id fam en, Stay e s.tk H id fam en → e.X id fam en := fun id fam en hs => hs.x
  have hsel := sel_mk hR.h.inv hk' ht' hX
  have h2 := RelA.nils nn h1
  have hpl : (pickN s.tk ts).length = ts.length := by simp [pickN]
  have hnl : ∀ k, ts.length ≤ k → k < ts.length + nn → NilLinked ((e.sel ks ts e.X).nils nn) (pickN s.tk ts ++ List.replicate nn 0) k := fun k k1 k2 => by
    refine ⟨0, ?_, fun _ => ?_⟩
    · rw [List.getElem?_append_right (by omega), List.getElem?_replicate, if_pos (by omega)]
    · show (pickT e.toks ts ++ List.replicate nn none)[k]? = _
      rw [List.getElem?_append_right (by simp [pickT]; omega), List.getElem?_replicate, if_pos (by simp [pickT]; omega)]
  have hI := h2.h.inv
  have hgrow : ∀ {p : PV} {v : Value}, RV (e.sel ks ts e.X) (pickN s.tk ts) H true p v → RV ((e.sel ks ts e.X).nils nn) (pickN s.tk ts ++ List.replicate nn 0) H true p v := by
    intro p v hv
    refine hv.grow (show Grow (e.sel ks ts e.X) (pickN s.tk ts) H ((e.sel ks ts e.X).nils nn) (pickN s.tk ts ++ List.replicate nn 0) H from ⟨Nat.le_refl _, fun k id hk => hk, fun id fam en _ hs => ⟨hs.lt, hs.flt, hs.x, hs.row, fun t τ n a1 a2 a3 => ?_⟩, fun id r n hr _ => ⟨r, hr, Meta.refl r, fun _ _ => rfl⟩, fun k n hk => ⟨n, get_app_old hk, Nat.le_refl _, fun _ => ?_⟩⟩)
    · have hlt : t < (pickT e.toks ts).length := by
        rcases Nat.lt_or_ge t (pickT e.toks ts).length with h | h
        · exact h
        · exfalso
          have a1' : (pickT e.toks ts ++ List.replicate nn none)[t]? = some (some τ) := a1
          rw [List.getElem?_append_right h, List.getElem?_replicate] at a1'
          split at a1' <;> cases a1'
      have a1' : (pickT e.toks ts ++ List.replicate nn none)[t]? = some (some τ) := a1
      rw [List.getElem?_append_left hlt] at a1'
      rw [List.getElem?_append_left (by rw [hpl]; simpa [pickT] using hlt)] at a2
      exact hs.tok t τ n a1' a2 a3
    · show (pickT e.toks ts ++ List.replicate nn none)[k]? = (pickT e.toks ts)[k]?
      rw [List.getElem?_append_left (by have := lt_of_get hk; rw [hpl] at this; simpa [pickT] using this)]
  refine ⟨(e.sel ks ts e.X).nils nn, ⟨⟨⟨hI.wf, by rw [hI.rlen]; simp only [PS.mem, PS.ofm]; rw [hl1, hfl], hI.rnd, fun k id R hk hR' => ?_, hI.tlen, hI.tsep, hI.tlt, hI.tfr⟩, h2.h.ext, h2.h.frame, h2.h.cw, h2.h.x, h2.h.x0⟩, hR.n, hR.marks, hR.r0, hR.t0, fun t q hq => ?_⟩⟩
  · have hkl : k < ks.length := by rw [hfl]; exact lt_of_get hR'
    obtain ⟨k0, hk0⟩ := get_of_lt hkl
    obtain ⟨R1, hR1⟩ := get_of_lt (l := fr1) (i := k) (by rw [hl1]; exact hkl)
    obtain ⟨_, h4⟩ := hf1 k k0 R1 hk0 hR1
    obtain ⟨h5, h6⟩ := h4 R hR'
    refine (hI.row k id R1 hk hR1).stay h5 rfl (fun us k8 => ⟨h6.1.symm.trans k8.1, fun i q v hi hv => ?_⟩) (fun sz l hl => less_list h6 hl)
    obtain ⟨p, hp⟩ := get_of_lt (l := R1.cells) (i := i) (by rw [h6.1]; exact lt_of_get hi)
    exact (k8.2 i p v hp hv).wk hnl (h6.2 i p q hp hi)
  · have hm := of_get es t q hq
    obtain ⟨p, p1, k1, k2, k3⟩ := hes.at hm
    obtain ⟨v, k4, k5⟩ := hR.tm t p k1
    exact ⟨v, k4, (hgrow (k5.sel hsel 4 k2)).wk hnl k3⟩

theorem PC.weak {rnd : Option Nat} {z : Code} {s s' : PS} {Q : AX → PS → Prop} (h : Weak s s') (hq : PC P O rnd z s' Q) : PC P O rnd z s Q := fun C e a H hR hX => let ⟨e', h1⟩ := h C e a H hR; hq C e' a H h1 hX
theorem PO.weak {rnd : Option Nat} {all os : List Oper} {s s' : PS} {Q : PS → Prop} (h : Weak s s') (hq : PO P O rnd all os s' Q) : PO P O rnd all os s Q := fun C e a H hR => let ⟨e', h1⟩ := h C e a H hR; hq C e' a H h1

end
end Go.Eng
