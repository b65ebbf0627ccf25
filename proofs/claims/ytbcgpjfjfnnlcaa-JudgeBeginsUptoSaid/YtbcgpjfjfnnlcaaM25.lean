/-
  A call that writes a list of one's own over: what lies in rows of elements of another size stays.
-/
import Derived.Test.YtbcgpjfjfnnlcaaM24
set_option linter.unusedVariables false
set_option linter.unusedSimpArgs false
namespace Go.Eng
noncomputable section
variable {P : Program} {O : Orc}

/-- a family's rows may know other cells -/
structure Havoc (F : Nat) (H H' : AH) : Prop where
  next : H'.next = H.next
  oth : ∀ (j : Nat) (o : AO), H.get j = some o → (∀ r, o = .row r → r.fam ≠ F) → H'.get j = some o
  fam : ∀ (j : Nat) (r : Row), H.get j = some (.row r) → r.fam = F → ∃ r', H'.get j = some (.row r') ∧ Meta r r' ∧ r'.solo = r.solo
  gone : ∀ (j : Nat), H.get j = none → H'.get j = none
theorem Havoc.refl (F : Nat) (H : AH) : Havoc F H H := ⟨rfl, fun _ _ h _ => h, fun j r h _ => ⟨r, h, Meta.refl r, rfl⟩, fun _ h => h⟩
theorem Havoc.back {F : Nat} {H H' : AH} (h : Havoc F H H') {j : Nat} {o : AO} (ho : H'.get j = some o) : ∃ o', H.get j = some o' ∧ (o' = o ∨ ∃ r r', o' = .row r ∧ o = .row r' ∧ r.fam = F ∧ Meta r r') := by
  cases hj : H.get j with
  | none => rw [h.gone j hj] at ho; cases ho
  | some o' =>
    refine ⟨o', rfl, ?_⟩
    by_cases hc : ∃ r, o' = .row r ∧ r.fam = F
    · obtain ⟨r, rfl, hf⟩ := hc
      obtain ⟨r', k1, k2, _⟩ := h.fam j r hj hf
      rw [k1] at ho; cases ho
      exact .inr ⟨r, r', rfl, rfl, hf, k2⟩
    · have := h.oth j o' hj (fun r e hf => hc ⟨r, e, hf⟩)
      rw [this] at ho
      exact .inl (Option.some.inj ho)

theorem write_any {H : AH} {id off : Nat} {r : Row} {vs : List Value} (hr : H.get id = some (.row r)) (hro : r.ro = false) (hp : vs.all plainCell = true) (hl : off + vs.length ≤ r.cells.length) : ∃ H1, H.write id off vs = .ok H1 ∧ Havoc r.fam H H1 := by
  have hrow : H.row id = .ok r := by unfold AH.row; rw [hr]
  refine ⟨_, by unfold AH.write; simp only [hrow, bind, Except.bind, hro, hp, Bool.false_eq_true, if_false, Bool.not_true]; rw [if_pos hl], ?_⟩
  have hlen : (spliceL r.cells off (vs.map some)).length = r.cells.length := splice_length _ _ _ (by rw [List.length_map]; exact hl)
  have hget : ∀ j, ((if r.solo = true then H else H.blur r.fam (r.disp + off) (r.disp + off + vs.length)).set id (.row { cells := spliceL r.cells off (vs.map some), ty := r.ty, fam := r.fam, disp := r.disp, esz := r.esz, ro := false, solo := r.solo })).get j = if j = id then some (.row { cells := spliceL r.cells off (vs.map some), ty := r.ty, fam := r.fam, disp := r.disp, esz := r.esz, ro := false, solo := r.solo }) else (if r.solo = true then H.get j else (H.get j).map (AO.blur r.fam (r.disp + off) (r.disp + off + vs.length))) := fun j => by
    rw [AH.get_set]
    by_cases hj : j = id
    · rw [if_pos hj, if_pos hj]
    · rw [if_neg hj, if_neg hj]
      split
      · rfl
      · rw [AH.get_blur]
  refine ⟨by rw [AH.set_next]; split <;> rfl, fun j o ho hn => ?_, fun j r0 h0 hf => ?_, fun j hj => ?_⟩
  · rw [hget, if_neg (fun e => by subst e; rw [hr] at ho; cases ho; exact hn r rfl rfl)]
    split
    · exact ho
    · rw [ho]
      cases o with
      | row r' => simp only [Option.map_some, AO.blur, if_neg (hn r' rfl)]
      | _ => rfl
  · rw [hget]
    by_cases hj : j = id
    · subst hj
      rw [hr] at h0; cases h0
      rw [if_pos rfl]
      exact ⟨_, rfl, ⟨rfl, rfl, rfl, rfl, hro.symm, hlen⟩, rfl⟩
    · rw [if_neg hj]
      split
      · exact ⟨r0, h0, Meta.refl r0, rfl⟩
      · rw [h0]
        simp only [Option.map_some, AO.blur, if_pos hf]
        exact ⟨_, rfl, ⟨rfl, rfl, rfl, rfl, rfl, Row.length_blur _ _ _⟩, rfl⟩
  · rw [hget, if_neg (fun e => by subst e; rw [hr] at hj; cases hj)]
    split
    · exact hj
    · rw [hj]; rfl

/-! ### What stays -/
inductive Ap (z : Nat) : PV → Prop
  | val (v : Value) : Ap z (.val v)
  | agg {l : List PV} : (∀ p ∈ l, Ap z p) → Ap z (.agg l)
  | tup {l : List PV} : (∀ p ∈ l, Ap z p) → Ap z (.tup l)
  | list {sz : Nat} {l : List (List PV)} {t : Option Nat} : sz ≠ z → sz ≠ 0 → (∀ cs ∈ l, ∀ p ∈ cs, Ap z p) → Ap z (.list sz l t)
  | ptr (k off : Nat) : Ap z (.ptr k off)
  | sl (k off n c : Nat) : Ap z (.sl k off n c)
  | mp (k : Nat) : Ap z (.mp k)
  | fn {f : FuncId} {l m : List PV} : (∀ p ∈ l, Ap z p) → (∀ p ∈ m, Ap z p) → Ap z (.fn f l m)
  | iface {t : TypeId} {p : PV} : Ap z p → Ap z (.iface t p)

theorem RV.havoc {e : Env} {tk : List Nat} {H H' : AH} {F z id0 : Nat} {r0 : Row} (hwf : WF0 H) (h0 : H.get id0 = some (.row r0)) (hf0 : r0.fam = F) (hro0 : r0.ro = false) (hz0 : r0.esz = z) (hz : z ≠ 0) (hv : Havoc F H H') {b : Bool} {p : PV} {v : Value} (h : RV e tk H b p v) (hap : Ap z p) : RV e tk H' b p v := by
  induction h with
  | val hv => exact .val hv
  | agg hl _ ih => cases hap with | agg ha => exact .agg hl fun i p v hi hv => ih i p v hi hv (ha p (List.mem_of_getElem? hi))
  | tup hl _ ih => cases hap with | tup ha => exact .tup hl fun i p v hi hv => ih i p v hi hv (ha p (List.mem_of_getElem? hi))
  | lnil ht => exact .lnil ht
  | @list b sz l t id off c n r w hr hn hs he hc hw hzz hp hvv _ ht ih =>
    cases hap with
    | list hsz hs0 ha =>
      have hne : r.fam ≠ F := fun hf => by
        have := hwf.esz id0 id r0 r h0 hr (hf0.trans hf.symm) hro0 (by omega) (by omega)
        omega
      have hr' := hv.oth _ _ hr (fun r' e1 => by cases e1; exact hne)
      exact .list w hr' hn ⟨by rw [hv.next]; exact hs.lt, by rw [hv.next]; exact hs.flt, hs.x, hs.row, hs.tok⟩ he hc hw hzz hp hvv (fun i cs j p hi hj => ih i cs j p hi hj (ha cs (List.mem_of_getElem? hi) p (List.mem_of_getElem? hj))) ht
  | ptr hk => exact .ptr hk
  | sl hk => exact .sl hk
  | mp hk => exact .mp hk
  | eptr w hr hn hs hvv _ ih => cases hap
  | fn hl _ hm _ ih ih' => cases hap with | fn ha ha' => exact .fn hl (fun i p v hi hv => ih i p v hi hv (ha p (List.mem_of_getElem? hi))) hm (fun i p v hi hv => ih' i p v hi hv (ha' p (List.mem_of_getElem? hi)))
  | iface _ ih => cases hap with | iface ha => exact .iface (ih ha)

theorem RelH.havoc {C : Ctx} {e : Env} {fr : List PRow} {tk : List Nat} {H H' : AH} {F z id0 : Nat} {r0 : Row} (hR : RelH C e fr tk H) (hF : C.H0.next ≤ F) (hnr : F ∉ e.rows) (h0 : H.get id0 = some (.row r0)) (hf0 : r0.fam = F) (hro0 : r0.ro = false) (hz0 : r0.esz = z) (hz : z ≠ 0)
    (hfr : ∀ R ∈ fr, ∀ p ∈ R.cells, Ap z p) (hv : Havoc F H H') : RelH C e fr tk H' := by
  refine ⟨⟨⟨fun j o hj => ?_, fun j r hj => ?_, esz_of hR.inv.wf fun j r hj => ?_⟩, hR.inv.rlen, hR.inv.rnd, fun k id R hk hR' => ?_, hR.inv.tlen, hR.inv.tsep, fun t τ ht => by rw [hv.next]; exact hR.inv.tlt t τ ht, hR.inv.tfr⟩, hR.ext, ⟨by rw [hv.next]; exact hR.frame.next, fun j r hj hid => ?_, fun j o hj hno hji => ?_, fun j h1 h2 => hv.gone j (hR.frame.gone j h1 h2), hR.frame.famB fun j r hj => by
    obtain ⟨o', h1, h2 | ⟨r1, r2, rfl, e2, _, h3⟩⟩ := hv.back hj
    · subst h2; exact ⟨j, r, h1, rfl⟩
    · cases e2; exact ⟨j, r1, h1, h3.fam.symm⟩⟩, hR.cw, hR.x, hR.x0⟩
  · obtain ⟨o', h1, _⟩ := hv.back hj
    rw [hv.next]; exact hR.inv.wf.lt j o' h1
  · obtain ⟨o', h1, h2 | ⟨r1, r2, rfl, e2, _, h3⟩⟩ := hv.back hj
    · subst h2; rw [hv.next]; exact hR.inv.wf.fam j r h1
    · cases e2; rw [hv.next, h3.fam]; exact hR.inv.wf.fam j r1 h1
  · obtain ⟨o', h1, h2 | ⟨r1, r2, rfl, e2, _, h3⟩⟩ := hv.back hj
    · subst h2; exact .inr ⟨j, r, h1, rfl, rfl, rfl⟩
    · cases e2; exact .inr ⟨j, r1, h1, h3.fam, h3.esz, h3.ro⟩
  · have hsame : H'.get id = H.get id := by
      rcases hR.inv.row k id R hk hR' with ⟨_, r, us, k2, k3, k4, k5, k6, k7, k8⟩ | ⟨_, es, c, _, _, k2, _⟩
      · rw [hv.oth id _ k2 (fun r' e1 hf => by
          cases e1
          exact hnr (by rw [← hf, k6]; exact List.mem_of_getElem? hk)), k2]
      · rw [hv.oth id _ k2 (fun r' e1 => by cases e1), k2]
    exact (hR.inv.row k id R hk hR').stay rfl hsame fun us k8 => ⟨k8.1, fun i p v hi hv' => (k8.2 i p v hi hv').havoc hR.inv.wf h0 hf0 hro0 hz0 hz hv (hfr R (List.mem_of_getElem? hR') p (List.mem_of_getElem? hi))⟩
  · obtain ⟨r', k1, k2, k3, k4⟩ := hR.frame.row j r hj hid
    refine ⟨r', hv.oth j _ k1 (fun r'' e1 hf => ?_), k2, k3, k4⟩
    cases e1
    have := hR.cw.wf.fam j r hj
    rw [k2.fam] at hf
    omega
  · exact hv.oth j o (hR.frame.oth j o hj hno hji) (fun r e1 => (hno r e1).elim)

theorem all1 {α : Type} {Q : α → Prop} : ∀ x ∈ ([] : List α), Q x := fun x h => by cases h
theorem all2 {α : Type} {Q : α → Prop} {a : α} {l : List α} (h : Q a) (h' : ∀ x ∈ l, Q x) : ∀ x ∈ a :: l, Q x := fun x hx => (List.mem_cons.1 hx).elim (fun e => e ▸ h) (h' x)
theorem ap_map {α : Type} {z : Nat} {f : α → List PV} {L : List α} (h : ∀ x, ∀ p ∈ f x, Ap z p) : ∀ cs ∈ L.map f, ∀ p ∈ cs, Ap z p := fun cs hcs => by
  obtain ⟨x, _, rfl⟩ := List.mem_map.1 hcs
  exact h x
end
end Go.Eng
