/-
  Layer 16: GlueInside, the plain law: what is computed answers true.
-/
import Derived.Test.YtfgccgoeiedbnaaQ5
set_option linter.unusedVariables false
set_option linter.unusedSimpArgs false
set_option maxRecDepth 4000
namespace Go.Eng.Lift
open Go.Proofs
noncomputable section
theorem get_lt' {α : Type} {l : List α} {i : Nat} {x : α} (h : l[i]? = some x) : i < l.length := by
  rcases Nat.lt_or_ge i l.length with h1 | h1
  · exact h1
  · rw [List.getElem?_eq_none h1] at h; cases h
/-! ### Boxes, one behind the other -/
def rgt (L : List GItem) (P Q : List Int) (t : Nat) : Int := (Q[t]?).getD 0 + (((P[t]?).bind fun n => L[n.toNat]?).map GItem.width).getD 0
def prv (L : List GItem) (P Q : List Int) : Nat → Int
  | 0 => 0
  | t + 1 => rgt L P Q t
structure Ent (L : List GItem) (P Q : List Int) (E : Int) (t : Nat) (n x : Int) (y : GItem) : Prop where
  p : P[t]? = some n
  q : Q[t]? = some x
  n0 : 0 ≤ n
  it : L[n.toNat]? = some y
  w0 : 0 ≤ y.width
  w1 : y.width ≤ 1099511627776
  x0 : -9007199254740992 ≤ x
  x1 : x ≤ 9007199254740992
  zero : t = 0 → x = 0
  up : ∀ t', t = t' + 1 → ∃ x', Q[t']? = some x' ∧ x' ≤ x
  rise : prv L P Q t ≤ x + y.width
  top : x + y.width ≤ E
def Ents (L : List GItem) (P Q : List Int) (E : Int) : Prop := ∀ t, t < P.length → ∃ n x y, Ent L P Q E t n x y
theorem prv_app {L : List GItem} {P Q P' Q' : List Int} (h : P.length = Q.length) : ∀ t, t ≤ P.length → prv L (P ++ P') (Q ++ Q') t = prv L P Q t
  | 0, _ => rfl
  | t + 1, ht => by
    show rgt _ _ _ t = rgt _ _ _ t
    unfold rgt
    rw [List.getElem?_append_left (by omega), List.getElem?_append_left (by omega)]
theorem ents_snoc {L : List GItem} {P Q : List Int} {E E' n x : Int} {y : GItem} (h : Ents L P Q E) (hl : P.length = Q.length) (n0 : 0 ≤ n) (hy : L[n.toNat]? = some y) (w0 : 0 ≤ y.width) (w1 : y.width ≤ 1099511627776) (x0 : -9007199254740992 ≤ x) (x1 : x ≤ 9007199254740992)
    (hz : P = [] → x = 0) (hu : ∀ x', Q[Q.length - 1]? = some x' → x' ≤ x) (hr : prv L P Q P.length ≤ x + y.width) (hE : E ≤ E') (hE' : x + y.width ≤ E') : Ents L (P ++ [n]) (Q ++ [x]) E' ∧ prv L (P ++ [n]) (Q ++ [x]) (P ++ [n]).length = x + y.width := by
  have e1 : (P ++ [n])[P.length]? = some n := by simp
  have e2 : (Q ++ [x])[P.length]? = some x := by rw [hl]; simp
  refine ⟨fun t ht => ?_, ?_⟩
  · rw [List.length_append, List.length_singleton] at ht
    by_cases h1 : t < P.length
    · obtain ⟨n', x', y', e⟩ := h t h1
      refine ⟨n', x', y', by rw [List.getElem?_append_left h1]; exact e.p, by rw [List.getElem?_append_left (by omega)]; exact e.q, e.n0, e.it, e.w0, e.w1, e.x0, e.x1, e.zero, fun t' ht' => ?_, ?_, by have := e.top; omega⟩
      · obtain ⟨x2, k1, k2⟩ := e.up t' ht'
        exact ⟨x2, by rw [List.getElem?_append_left (by omega)]; exact k1, k2⟩
      · rw [prv_app hl t (by omega)]; exact e.rise
    · have : t = P.length := by omega
      subst this
      refine ⟨n, x, y, e1, e2, n0, hy, w0, w1, x0, x1, fun h0 => hz (List.eq_nil_of_length_eq_zero h0), fun t' ht' => ?_, ?_, hE'⟩
      · have hq : t' < Q.length := by omega
        have hx : Q[t']? = some Q[t'] := List.getElem?_eq_getElem hq
        exact ⟨Q[t'], by rw [List.getElem?_append_left hq]; exact hx, hu _ (by rw [show Q.length - 1 = t' by omega]; exact hx)⟩
      · rw [prv_app hl _ (Nat.le_refl _)]; exact hr
  · rw [List.length_append, List.length_singleton]
    show rgt _ _ _ _ = _
    unfold rgt
    rw [e1, e2, Option.bind_some, hy]; rfl
theorem ents_nonneg {L : List GItem} {P Q : List Int} {E : Int} (h : Ents L P Q E) : ∀ t, t ≤ P.length → 0 ≤ prv L P Q t
  | 0, _ => Int.le_refl _
  | t + 1, ht => by
    obtain ⟨n, x, y, e⟩ := h t (by omega)
    have h1 := ents_nonneg h t (by omega)
    have h2 := e.rise
    show 0 ≤ rgt L P Q t
    unfold rgt
    rw [e.p, e.q, Option.bind_some, e.it]
    show 0 ≤ x + y.width
    omega
structure Inv (L M : List GItem) (f : Nat) (m S : Int) (g : Bool) (i : Nat) : Prop where
  ents : Ents L (plI f M i) (lfI M m S g i) (enI M m S g i)
  prv : prv L (plI f M i) (lfI M m S g i) (plI f M i).length = enI M m S g i
  last : ∀ x', (lfI M m S g i)[(lfI M m S g i).length - 1]? = some x' → x' = laI M m S g i
  la : laI M m S g i ≤ atI M m S g i
  nil : plI f M i = [] → i = 0
  K : enI M m S g i ≤ atI M m S g i ∨ ∃ z q, 0 < i ∧ M[i - 1]? = some q ∧ q.kind = 2 ∧ L[f + i]? = some z ∧ z.kind = 1 ∧ enI M m S g i ≤ atI M m S g i + z.width
  box : ∀ y, 0 < i → M[i - 1]? = some y → y.kind = 1 → enI M m S g i = atI M m S g i ∧ laI M m S g i = atI M m S g i - y.width
theorem at_zero (M : List GItem) (m S : Int) (g : Bool) : atI M m S g 0 = 0 := by
  have : shI M m S g 0 = 0 := by
    unfold shI
    split
    · rfl
    · show m * 0 / S = 0
      rw [Int.mul_zero, Int.zero_ediv]
  unfold atI
  rw [this]
  cases g <;> rfl
theorem inv_of {L M : List GItem} {f : Nat} (hr : Row L M f) {m S : Int} {g : Bool} (hs : Sett M m S g) : ∀ i, i ≤ M.length → Inv L M f m S g i
  | 0, _ => by
    have h0 : atI M m S g 0 = 0 := at_zero M m S g
    exact ⟨fun t ht => (by cases ht), rfl, fun x' h => (by cases h), by rw [h0]; exact Int.le_refl _, fun _ => rfl, .inl (by rw [h0]; exact Int.le_refl _), fun y h => (by omega)⟩
  | i + 1, hi => by
    have I := inv_of hr hs i (by omega)
    have hl := hr.lenM
    have hF := fun t y hy => hr.fineM (t := t) (y := y) hy
    have hy : M[i]? = some M[i] := List.getElem?_eq_getElem (by omega)
    have gd := hr.goodM hy
    have fy := hF _ _ hy
    have hyL : L[f + i]? = some M[i] := by rw [← hr.at_ i (by omega)]; exact hy
    have bd := at_bd hs hl hF i (by omega)
    generalize M[i] = y at *
    have pn := pl_len f M m S g i
    by_cases hb : y.kind = 1
    · have hb' : isB y = true := by unfold isB; rw [hb]; rfl
      have wy := gd.box hb
      have e1 : plI f M (i + 1) = plI f M i ++ [((f + i : Nat) : Int)] := by rw [pl_succ hy, hb']; rfl
      have e2 : lfI M m S g (i + 1) = lfI M m S g i ++ [atI M m S g i] := by rw [lf_succ hy, hb']; rfl
      have e3 : enI M m S g (i + 1) = atI M m S g i + y.width := by rw [en_succ hy, hb']; rfl
      have e4 : laI M m S g (i + 1) = atI M m S g i := by rw [la_succ hy, hb']; rfl
      have e5 : atI M m S g (i + 1) = atI M m S g i + y.width := by rw [at_same hy (by omega), show nat1 y = y.width from if_pos (.inl hb)]
      have hK : enI M m S g i ≤ atI M m S g i + y.width := by
        rcases I.K with h | ⟨z, q, _, _, _, h1, _, h2⟩
        · omega
        · rw [hyL] at h1; cases h1; exact h2
      obtain ⟨s1, s2⟩ := ents_snoc (E' := atI M m S g i + y.width) I.ents pn.1 (show (0 : Int) ≤ ((f + i : Nat) : Int) by omega) (by rw [Int.toNat_natCast]; exact hyL) wy.1 wy.2 bd.1 bd.2 (fun h => by rw [I.nil h]; exact at_zero M m S g) (fun x' hx => by rw [I.last x' hx]; exact I.la) (by rw [I.prv]; exact hK) hK (Int.le_refl _)
      refine ⟨?_, ?_, ?_, ?_, ?_, ?_, ?_⟩
      · rw [e1, e2, e3]; exact s1
      · rw [e1, e2, e3]; exact s2
      · rw [e2, e4]
        intro x' hx
        rw [List.length_append, List.length_singleton, Nat.add_sub_cancel, List.getElem?_append_right (Nat.le_refl _), Nat.sub_self] at hx
        cases hx; rfl
      · rw [e4, e5]; omega
      · rw [e1]; intro h; simp at h
      · left; rw [e3, e5]; exact Int.le_refl _
      · rw [e3, e4, e5]
        intro z _ hz _
        rw [Nat.add_sub_cancel, hy] at hz
        cases hz
        exact ⟨rfl, by omega⟩
    · have hb' : isB y = false := by unfold isB; rw [beq_eq_false_iff_ne]; exact hb
      have e1 : plI f M (i + 1) = plI f M i := by rw [pl_succ hy, hb']; rfl
      have e2 : lfI M m S g (i + 1) = lfI M m S g i := by rw [lf_succ hy, hb']; rfl
      have e3 : enI M m S g (i + 1) = enI M m S g i := by rw [en_succ hy, hb']; rfl
      have e4 : laI M m S g (i + 1) = laI M m S g i := by rw [la_succ hy, hb']; rfl
      have hi0 : 0 < i := by
        rcases Nat.eq_zero_or_pos i with h | h
        · subst h; exact absurd (hr.first y hy) hb
        · exact h
      have base : laI M m S g i ≤ atI M m S g (i + 1) → (enI M m S g i ≤ atI M m S g (i + 1) ∨ ∃ z q, 0 < i + 1 ∧ M[i + 1 - 1]? = some q ∧ q.kind = 2 ∧ L[f + (i + 1)]? = some z ∧ z.kind = 1 ∧ enI M m S g i ≤ atI M m S g (i + 1) + z.width) → Inv L M f m S g (i + 1) := fun h1 h2 => by
        refine ⟨by rw [e1, e2, e3]; exact I.ents, by rw [e1, e2, e3]; exact I.prv, by rw [e2, e4]; exact I.last, by rw [e4]; exact h1, fun h => ?_, by rw [e3]; exact h2, fun z _ hz hk => ?_⟩
        · rw [e1] at h; have := I.nil h; omega
        · rw [Nat.add_sub_cancel, hy] at hz
          cases hz
          exact absurd hk hb
      have hK : y.kind ≠ 1 → enI M m S g i ≤ atI M m S g i := fun hne => by
        rcases I.K with h | ⟨z, q, _, _, _, h1, h2, _⟩
        · exact h
        · rw [hyL] at h1; cases h1; exact absurd h2 hne
      have hK := hK hb
      by_cases h3 : y.kind = 3
      · have hg := gd.glue h3
        have ha := at_glue hs hF hy h3 hg.2.2.2
        exact base (Int.le_trans I.la ha) (.inl (Int.le_trans hK ha))
      · have ea := at_same (m := m) (S := S) (g := g) hy h3
        by_cases h2 : y.kind = 2
        · rw [show nat1 y = y.width from if_pos (.inr (.inl h2))] at ea
          obtain ⟨k1, k2, k3, k4⟩ := gd.kern h2
          obtain ⟨q, hq⟩ : ∃ q, M[i - 1]? = some q := ⟨M[i - 1]'(by omega), List.getElem?_eq_getElem (by omega)⟩
          have hp : prevOf L (f + i) = q := by
            unfold prevOf
            rw [if_pos (by omega), show f + i - 1 = f + (i - 1) by omega, ← hr.at_ (i - 1) (by omega), hq]; rfl
          obtain ⟨z, hz⟩ : ∃ z, L[f + (i + 1)]? = some z := by
            unfold nextOf at k2
            cases hz : L[f + i + 1]? with
            | none => rw [hz] at k2; cases k2
            | some z => exact ⟨z, rfl⟩
          have hn : nextOf L (f + i) = z := by unfold nextOf; rw [show f + i + 1 = f + (i + 1) by omega, hz]; rfl
          rw [hp] at k1 k3
          rw [hn] at k2 k3
          have wq := (hr.goodM hq).box k1
          have wz := (hr.good _ _ hz).box k2
          obtain ⟨b1, b2⟩ := I.box q hi0 hq k1
          have k5 : -(q.width) ≤ y.width ∧ -(z.width) ≤ y.width := by
            split at k3 <;> rw [w_id (by omega) (by omega)] at k3 <;> omega
          refine base (by omega) (.inr ⟨z, y, by omega, by rw [Nat.add_sub_cancel]; exact hy, h2, hz, k2, by omega⟩)
        · rw [show nat1 y = 0 from if_neg (by omega), Int.add_zero] at ea
          exact base (by rw [ea]; exact I.la) (.inl (by rw [ea]; exact hK))
/-! ### How the law goes through the places -/
theorem t3_l1 (k : Nat) {L M : List GItem} {f : Nat} (hr : Row L M f) (r2 : GLine × Int) (h2 : r2.1.last = ((f + M.length : Nat) : Int)) (r7 : (List Int) × (List Int) × GFault × GMeter) (tl : List Int) (h7 : r7.1 = plI f M M.length ++ tl) :
    ∀ j i : Nat, i ≤ M.length → M.length < j + i → F3_l1 k L r2 r7 j (plI f M i).length ((f + i : Nat) : Int) = some (.inl (plI f M M.length).length)
  | 0, i, h1, h3 => by omega
  | j + 1, i, h1, h3 => by
    have hl := hr.lenM
    have ll := hr.len
    have le := hr.le
    unfold F3_l1
    rw [h2]
    by_cases hi : i < M.length
    · have hy : M[i]? = some M[i] := List.getElem?_eq_getElem hi
      have hyL : L[((f + i : Nat) : Int).toNat]? = some M[i] := by rw [Int.toNat_natCast, ← hr.at_ i hi]; exact hy
      rw [decide_eq_true (show ((f + i : Nat) : Int) < ((f + M.length : Nat) : Int) by omega), cond_true, bindI_eq (by omega) hyL]
      generalize M[i] = y at *
      have ih := t3_l1 k hr r2 h2 r7 tl h7 j (i + 1) (by omega) (by omega)
      have pn := pl_len f M 0 0 true i
      have ew : w (((f + i : Nat) : Int) + 1) = ((f + (i + 1) : Nat) : Int) := by rw [w_id (by omega) (by omega)]; omega
      rw [h7]
      cases hb : (y.kind == 1) with
      | true =>
        have e1 : plI f M (i + 1) = plI f M i ++ [((f + i : Nat) : Int)] := by rw [pl_succ hy, show isB y = true from hb]; rfl
        obtain ⟨l, hpl⟩ := pl_pre f M (i := i + 1) (M.length - (i + 1))
        rw [show i + 1 + (M.length - (i + 1)) = M.length by omega] at hpl
        have e2 : (plI f M M.length ++ tl)[(((plI f M i).length : Nat) : Int).toNat]? = some ((f + i : Nat) : Int) := by
          rw [Int.toNat_natCast, hpl, e1, List.append_assoc, List.append_assoc, List.getElem?_append_right (Nat.le_refl _), Nat.sub_self]; rfl
        have e3 : ¬ ((plI f M i).length : Int) ≥ ((plI f M M.length ++ tl).length : Int) := by
          rw [hpl, e1, List.append_assoc, List.append_assoc, List.length_append, List.length_append, List.length_singleton]; omega
        rw [cond_true, decide_eq_false e3, cond_false, bindI_eq (by omega) e2, Option.bind_some, show (((f + i : Nat) : Int) != ((f + i : Nat) : Int)) = false by simp, cond_false, Option.bind_some, w_id (n := ((plI f M i).length : Int) + 1) (by omega) (by omega), Sum.elim_inl, ew]
        rw [e1, List.length_append, List.length_singleton] at ih
        exact ih
      | false =>
        have e1 : plI f M (i + 1) = plI f M i := by rw [pl_succ hy, show isB y = false from hb]; rfl
        rw [cond_false, Option.bind_some, Sum.elim_inl, ew]
        rw [e1] at ih
        exact ih
    · have : i = M.length := by omega
      subst this
      rw [decide_eq_false (by omega)]
      rfl
theorem t3_l2 (k : Nat) {L : List GItem} (a1 : Int) (r2 : GLine × Int) {P Q : List Int} {E : Int} (he : Ents L P Q E) (hP : P.length ≤ 5000) (ho : r2.1.over_ = false → E ≤ a1) (r7 : (List Int) × (List Int) × GFault × GMeter) (h7 : r7.1 = P) (h7' : r7.2.1 = Q) :
    ∀ j t : Nat, t ≤ P.length → P.length < j + t → F3_l2 k L a1 r2 r7 j (prv L P Q t) t = some (.inl (prv L P Q P.length))
  | 0, t, h1, h3 => by omega
  | j + 1, t, h1, h3 => by
    unfold F3_l2
    rw [h7, h7']
    by_cases ht : t < P.length
    · obtain ⟨n, x, y, e⟩ := he t ht
      have w0 := e.w0
      have w1 := e.w1
      have x0 := e.x0
      have x1 := e.x1
      have hp : P[(t : Int).toNat]? = some n := by rw [Int.toNat_natCast]; exact e.p
      have hq : Q[(t : Int).toNat]? = some x := by rw [Int.toNat_natCast]; exact e.q
      rw [decide_eq_true (show (t : Int) < P.length by omega), cond_true, bindI_eq (by omega) hp]
      have up : ∀ t', t = t' + 1 → bindI Q (w ((t : Int) - 1)) (fun y35 => some (decide (x < y35))) = some false := fun t' ht' => by
        obtain ⟨x', k1, k2⟩ := e.up t' ht'
        rw [w_id (by omega) (by omega), bindI_eq (y := x') (by omega) (by rw [show ((t : Int) - 1).toNat = t' by omega]; exact k1), decide_eq_false (by omega)]
      have A : (Option.bind (α := Bool) (bif (t : Int) == 0 then (bindI Q (t : Int) fun y28 =>
          Option.bind (α := Bool) (bif y28 != 0 then (some true) else (Option.bind (α := Bool) (bif decide ((t : Int) > 0) then (bindI Q (t : Int) fun y31 =>
          bindI Q (w ((t : Int) - 1)) fun y32 =>
          some (decide (y31 < y32))) else (some false)) fun (v30 : Bool) =>
          some v30)) fun (v29 : Bool) =>
          some v29) else (Option.bind (α := Bool) (bif decide ((t : Int) > 0) then (bindI Q (t : Int) fun y34 =>
          bindI Q (w ((t : Int) - 1)) fun y35 =>
          some (decide (y34 < y35))) else (some false)) fun (v33 : Bool) =>
          some v33)) fun v27 => some v27) = some false := by
        rcases Nat.eq_zero_or_pos t with h0 | h0
        · have hx := e.zero h0
          rw [show ((t : Int) == 0) = true by rw [h0]; rfl, cond_true, bindI_eq (by omega) hq, show (x != 0) = false by rw [hx]; rfl, cond_false, decide_eq_false (show ¬ (t : Int) > 0 by omega)]
          rfl
        · rw [show ((t : Int) == 0) = false by rw [beq_eq_false_iff_ne]; omega, cond_false, decide_eq_true (show (t : Int) > 0 by omega), cond_true, bindI_eq (by omega) hq, up (t - 1) (by omega)]
          rfl
      have A' : (bif (t : Int) == 0 then (bindI Q (t : Int) fun y28 =>
          Option.bind (α := Bool) (bif y28 != 0 then (some true) else (Option.bind (α := Bool) (bif decide ((t : Int) > 0) then (bindI Q (t : Int) fun y31 =>
          bindI Q (w ((t : Int) - 1)) fun y32 =>
          some (decide (y31 < y32))) else (some false)) fun (v30 : Bool) =>
          some v30)) fun (v29 : Bool) =>
          some v29) else (Option.bind (α := Bool) (bif decide ((t : Int) > 0) then (bindI Q (t : Int) fun y34 =>
          bindI Q (w ((t : Int) - 1)) fun y35 =>
          some (decide (y34 < y35))) else (some false)) fun (v33 : Bool) =>
          some v33)) = some false := by
        revert A
        generalize (bif (t : Int) == 0 then _ else _ : Option Bool) = z
        intro A
        cases z with
        | none => cases A
        | some b => exact A
      have rise := e.rise
      have top := e.top
      have B : (Option.bind (α := Bool) (bif decide (x + y.width < prv L P Q t) then (some true) else (Option.bind (α := Bool) (bif !r2.1.over_ then (some (decide (x + y.width > a1))) else (some false)) fun (v39 : Bool) => some v39)) fun v38 => some v38) = some false := by
        rw [decide_eq_false (by omega), cond_false]
        cases ho' : r2.1.over_ with
        | true => rfl
        | false => have := ho ho'; rw [Bool.not_false, cond_true, decide_eq_false (by omega)]; rfl
      have B' : (bif decide (x + y.width < prv L P Q t) then (some true) else (Option.bind (α := Bool) (bif !r2.1.over_ then (some (decide (x + y.width > a1))) else (some false)) fun (v39 : Bool) => some v39)) = some false := by
        revert B
        generalize (bif decide (x + y.width < prv L P Q t) then _ else _ : Option Bool) = z
        intro B
        cases z with
        | none => cases B
        | some b => exact B
      rw [A', Option.bind_some, cond_false, bindI_eq (by omega) hq, bindI_eq e.n0 e.it, w_id (n := x + y.width) (by omega) (by omega), B', Option.bind_some, cond_false, w_id (n := (t : Int) + 1) (by omega) (by omega)]
      have er : prv L P Q (t + 1) = x + y.width := by
        show rgt _ _ _ _ = _
        unfold rgt
        rw [e.p, e.q, Option.bind_some, e.it]; rfl
      have ih := t3_l2 k a1 r2 he hP ho r7 h7 h7' j (t + 1) (by omega) (by omega)
      rw [er] at ih
      rw [show ((t : Int) + 1) = ((t + 1 : Nat) : Int) by omega]
      exact ih
    · have : t = P.length := by omega
      subst this
      rw [decide_eq_false (by omega)]
      rfl
/-! ### A line's setting, and the whole of Set -/
theorem t21 (k : Nat) {M : List GItem} (hk : M.length < k) (hl : M.length ≤ 4096) (hf : ∀ (t : Nat) (y : GItem), M[t]? = some y → Fine y) (x : GLine) {s : Int} (hs : x.short = s) (h1 : -9007199254740992 ≤ s) (h2 : s ≤ 70368744177664) :
    ∃ m S g, F21 k M x = some ⟨m, S, g, 0⟩ ∧ Sett M m S g ∧
      (0 ≤ s → atI M m S g M.length = sm nat1 M M.length + (if 0 < sm (wt true) M M.length ∧ x.end_ = false then s else 0)) ∧
      (s < 0 → atI M m S g M.length = sm nat1 M M.length + (if - sm (wt false) M M.length ≤ s then s else - sm (wt false) M M.length)) := by
  have bb := (sm_bd hf M.length (Nat.le_refl _)).2 true
  have bc := (sm_bd hf M.length (Nat.le_refl _)).2 false
  unfold F21
  have e := t21_l1 k hl hf k 0 (by omega) (by omega)
  rw [show F21_l1 k M k 0 0 0 = some (sm (wt true) M M.length, sm (wt false) M M.length) from e, Option.bind_some]
  dsimp only
  rw [hs]
  have hsh : ∀ m S g, S ≠ 0 → S = sm (wt g) M M.length → shI M m S g M.length = m := fun m S g h0 hS => by
    unfold shI
    rw [if_neg h0, ← hS, Int.mul_ediv_cancel _ h0]
  have hat : ∀ g, atI M 0 0 g M.length = sm nat1 M M.length := fun g => by
    unfold atI shI
    rw [if_pos rfl]; cases g <;> simp
  have ns : ∃ m S g, (some (Gsetting.mk 0 0 false 0) : Option Gsetting) = some ⟨m, S, g, 0⟩ ∧ Sett M m S g ∧ m = 0 ∧ S = 0 := ⟨0, 0, false, rfl, ⟨by decide, by decide, .inl rfl, fun _ => by decide⟩, rfl, rfl⟩
  by_cases p1 : s > 0
  · rw [decide_eq_true p1, cond_true]
    have q1 : ¬ s < 0 := by omega
    by_cases p2 : sm (wt true) M M.length > 0
    · rw [decide_eq_true p2, cond_true, Option.bind_some]
      cases he : x.end_ with
      | false =>
        rw [Bool.not_false, Option.bind_some, cond_true]
        refine ⟨_, _, _, rfl, ⟨by omega, h2, .inr ⟨by omega, rfl⟩, fun h => by cases h⟩, fun _ => ?_, fun h => by omega⟩
        rw [if_pos ⟨p2, rfl⟩]
        unfold atI
        rw [hsh _ _ _ (by omega) rfl]; rfl
      | true =>
        rw [Bool.not_true, Option.bind_some, cond_false, decide_eq_false q1, cond_false, Option.bind_some, cond_false]
        refine ⟨_, _, _, rfl, ⟨by decide, by decide, .inl rfl, fun _ => by decide⟩, fun _ => ?_, fun h => by omega⟩
        rw [if_neg (by simp), hat]; omega
    · rw [decide_eq_false p2, cond_false, Option.bind_some, Option.bind_some, cond_false, decide_eq_false q1, cond_false, Option.bind_some, cond_false]
      refine ⟨_, _, _, rfl, ⟨by decide, by decide, .inl rfl, fun _ => by decide⟩, fun _ => ?_, fun h => by omega⟩
      rw [if_neg (by omega), hat]; omega
  · rw [decide_eq_false p1, cond_false, Option.bind_some, cond_false]
    by_cases p3 : s < 0
    · rw [decide_eq_true p3, cond_true, Option.bind_some]
      by_cases p4 : sm (wt false) M M.length > 0
      · rw [decide_eq_true p4, cond_true, w_id (n := 0 - sm (wt false) M M.length) (by omega) (by omega), w_id (n := 0 - s) (by omega) (by omega)]
        by_cases p5 : s > 0 - sm (wt false) M M.length
        · rw [decide_eq_true p5, cond_true, Option.bind_some]
          refine ⟨_, _, _, rfl, ⟨by omega, by omega, .inr ⟨by omega, rfl⟩, fun _ => by omega⟩, fun h => by omega, fun _ => ?_⟩
          rw [if_pos (by omega)]
          unfold atI
          rw [hsh _ _ _ (by omega) rfl, cond_false]; omega
        · rw [decide_eq_false p5, cond_false, Option.bind_some]
          refine ⟨_, _, _, rfl, ⟨by omega, by omega, .inr ⟨by omega, rfl⟩, fun _ => by omega⟩, fun h => by omega, fun _ => ?_⟩
          unfold atI
          rw [hsh _ _ _ (by omega) rfl, cond_false]
          split <;> omega
      · rw [decide_eq_false p4, cond_false]
        refine ⟨_, _, _, rfl, ⟨by decide, by decide, .inl rfl, fun _ => by decide⟩, fun h => by omega, fun _ => ?_⟩
        rw [hat]
        split <;> omega
    · rw [decide_eq_false p3, cond_false, Option.bind_some, cond_false]
      refine ⟨_, _, _, rfl, ⟨by decide, by decide, .inl rfl, fun _ => by decide⟩, fun _ => ?_, fun h => by omega⟩
      rw [hat]
      split <;> omega
theorem t7 (k : Nat) {L M : List GItem} {f : Nat} (hr : Row L M f) (hk : L.length + 8 ≤ k) (hM : M = (L.take (f + M.length)).drop f) (x : GLine) (hf : x.first = (f : Int)) (hla : x.last = ((f + M.length : Nat) : Int)) (hc : F14 k L = some 0)
    {y : GItem} (hy : x.hyphen = true → 0 ≤ x.break_ ∧ L[x.break_.toNat]? = some y ∧ y.kind = 4 ∧ y.flag = true) {m S : Int} {g : Bool} (h21 : F21 k M x = some ⟨m, S, g, 0⟩) (hs : Sett M m S g) :
    F7 k ⟨0, 0, G, 0, 0, G, 0⟩ L x = some ((plI f M M.length ++ (bif x.hyphen then [x.break_] else [])), (lfI M m S g M.length ++ (bif x.hyphen then [atI M m S g M.length] else [])), ⟨0, 0⟩,
      ⟨(M.length : Int) + (bif x.hyphen then 1 else 0), (M.length : Int) + (bif x.hyphen then 1 else 0), G, ((plI f M M.length).length : Int) + (bif x.hyphen then 1 else 0), ((plI f M M.length).length : Int) + (bif x.hyphen then 1 else 0), G, 0⟩) := by
  have hl := hr.lenM
  have ll := hr.len
  have le := hr.le
  have pn := pl_len f M m S g M.length
  have h20 : F20 k L x = some (M, (bif x.hyphen then x.break_ else -1), true) := by
    unfold F20
    rw [hc, Option.bind_some, hf, hla, show ((0 : Int) != 0) = false from rfl, cond_false, decide_eq_false (show ¬ (f : Int) < 0 by omega), cond_false, decide_eq_false (show ¬ (f : Int) > ((f + M.length : Nat) : Int) by omega), cond_false, decide_eq_false (show ¬ ((f + M.length : Nat) : Int) > L.length by omega), Option.bind_some, Option.bind_some, Option.bind_some, cond_false]
    unfold bindS3
    rw [if_pos ⟨by omega, by omega, by omega, by omega⟩, Int.toNat_natCast, Int.toNat_natCast, ← hM]
    cases hh : x.hyphen with
    | false => rfl
    | true =>
      obtain ⟨k1, k2, k3, k4⟩ := hy hh
      have hlt := get_lt' k2
      simp only [Bool.not_true, cond_false]
      rw [decide_eq_false (show ¬ x.break_ < 0 by omega), cond_false, decide_eq_false (show ¬ x.break_ ≥ L.length by omega), cond_false, bindI_eq k1 k2, show (y.kind != 4) = false by rw [k3]; rfl, cond_false, bindI_eq k1 k2, k4]
      rfl
  unfold F7
  rw [h20, Option.bind_some]
  dsimp only
  rw [Bool.not_true, cond_false, h21, Option.bind_some]
  dsimp only
  have h7l := t7l k (by omega) hr hs x hf (M, (bif x.hyphen then x.break_ else -1), true) rfl k 0 (by omega) (by omega)
  have eb : bfI M S g 0 = 0 := by unfold bfI; split <;> rfl
  rw [eb, at_zero] at h7l
  rw [show F7_l1 k x (M, (bif x.hyphen then x.break_ else -1), true) k 0 0 0 G 0 0 G 0 [] [] m S g 0 0 = _ from h7l, Option.bind_some, Sum.elim_inl]
  dsimp only
  cases hh : x.hyphen with
  | false =>
    simp only [cond_false, decide_eq_false (show ¬ (-1 : Int) ≥ 0 by decide), Option.bind_some, List.append_nil, Int.add_zero]
  | true =>
    obtain ⟨k1, k2, k3, k4⟩ := hy hh
    have h22 := t22 k x.break_ true (st := (M.length : Int)) (ce := ((plI f M M.length).length : Int)) (P := plI f M M.length) (Q := lfI M m S g M.length) (atI M m S g M.length) (by omega) (by omega) (by omega) (by omega) (by omega) (by omega)
    simp only [cond_true, decide_eq_true (show x.break_ ≥ 0 from k1), h22, Option.bind_some, Bool.not_true, cond_false]
/-- the law -/
theorem t3 (L : List GItem) (a1 a2 a3 : Int) : F3 (L.length + 40) L a1 a2 a3 = some true := by
  obtain ⟨k, hk⟩ : ∃ k, k = L.length + 40 := ⟨_, rfl⟩
  rw [← hk]
  rcases s34 k L a1 a2 a3 (by omega) with h | lg
  · unfold F3; rw [h]; rfl
  have ll := lg.len
  have f1 := lg.f1
  have f2 := lg.f2
  have f3 := lg.f3
  have w1 := lg.w1
  have w2 := lg.w2
  obtain ⟨r0, hr0, hr0'⟩ := t64 k L (by omega)
  have hgood : ∀ t y, L[t]? = some y → Good y (prevOf L t) (nextOf L t) := by
    have := lg.chk; rw [hr0] at this; cases this; exact (hr0' rfl).2
  obtain ⟨v1, v7, n, b, c, u, v, y, C⟩ := core_of k L a2 a3 ll (by omega) lg.fine f1 f2 f3
  have lo := C.lo
  have mid := C.mid
  have hi := C.hi
  -- the line's own items
  obtain ⟨f, hf⟩ : ∃ f : Nat, v1 = (f : Int) := ⟨v1.toNat, by omega⟩
  subst hf
  obtain ⟨N, hN⟩ : ∃ N : Nat, v7 = ((f + N : Nat) : Int) := ⟨v7.toNat - f, by omega⟩
  subst hN
  have hsum := C.sum
  rw [Int.toNat_natCast, Int.toNat_natCast] at hsum
  obtain ⟨M, hM⟩ : ∃ M, M = (L.take (f + N)).drop f := ⟨_, rfl⟩
  have hMl : M.length = N := by rw [hM, List.length_drop, List.length_take]; omega
  rw [← hM] at hsum
  have hat : ∀ t, t < M.length → M[t]? = L[f + t]? := fun t ht => by
    rw [hM, List.getElem?_drop, List.getElem?_take, if_pos (by omega)]
  have row : Row L M f := by
    refine ⟨ll, hat, by omega, hgood, fun y hy => ?_, fun y hy => ?_⟩
    · have ht := get_lt' hy
      obtain ⟨z, hz, hz'⟩ := C.first (by omega)
      rw [hat 0 ht] at hy
      rw [Int.toNat_natCast] at hz
      rw [show f + 0 = f from rfl, hz] at hy
      cases hy; exact hz'
    · have ht := get_lt' hy
      obtain ⟨z, hz, hz'⟩ := C.last (by omega)
      rw [hat _ ht] at hy
      rw [show (((f + N : Nat) : Int) - 1).toNat = f + (M.length - 1) by omega, hy] at hz
      cases hz; exact hz'
  have hF := fun t y hy => row.fineM (t := t) (y := y) hy
  obtain ⟨d', e', h18⟩ := e18_l3 k row.lenM hF k 0 0 0 (by omega) (by omega)
  rw [show F18_l3 k M k 0 0 0 0 0 0 = _ from h18] at hsum
  have hsum' := Option.some.inj hsum
  have en : n = sm nat1 M M.length := (Prod.mk.inj hsum').1.symm
  have eb : b = sm (wt true) M M.length := (Prod.mk.inj (Prod.mk.inj hsum').2).1.symm
  have ec : c = sm (wt false) M M.length := (Prod.mk.inj (Prod.mk.inj (Prod.mk.inj hsum').2).2).1.symm
  have n0 : 0 ≤ n := by
    have I := inv_of row (m := 0) (S := 0) (g := false) ⟨by decide, by decide, .inl rfl, fun _ => by decide⟩ M.length (Nat.le_refl _)
    have h1 := ents_nonneg I.ents _ (Nat.le_refl _)
    rw [I.prv] at h1
    have e0 : atI M 0 0 false M.length = sm nat1 M M.length := by unfold atI shI; rw [if_pos rfl]; simp
    have hK : enI M 0 0 false M.length ≤ atI M 0 0 false M.length := by
      rcases I.K with h | ⟨z, q', h0, hq', hk', _⟩
      · exact h
      · have := row.last q' hq'; omega
    omega
  have n1 := C.n1
  have n2 := C.n2
  have b1 := C.b1
  have b2 := C.b2
  have c1 := C.c1
  have c2 := C.c2
  have gy := hgood _ _ C.at_
  obtain ⟨T, hT⟩ : ∃ T, T = (tailOf y n u v).1 := ⟨_, rfl⟩
  obtain ⟨fl, hfl⟩ : ∃ fl, fl = (tailOf y n u v).2.1 := ⟨_, rfl⟩
  obtain ⟨ed, hed⟩ : ∃ ed, ed = (tailOf y n u v).2.2.1 := ⟨_, rfl⟩
  -- what the last item adds
  have hTy : ∃ yw : Int, T = n + yw ∧ 0 ≤ yw ∧ yw ≤ 1099511627776 ∧ (fl = true → y.kind = 4 ∧ y.flag = true ∧ yw = y.width) ∧ (fl = false → yw = 0) := by
    unfold tailOf at hT hfl
    cases hq : (y.kind == 4) with
    | false =>
      rw [hq] at hT hfl
      exact ⟨0, by rw [hT]; simp, by decide, by decide, fun h => (by rw [hfl] at h; cases h), fun _ => rfl⟩
    | true =>
      have hq' : y.kind = 4 := eq_of_beq hq
      have wy := gy.pen hq'
      rw [hq] at hT hfl
      simp only [cond_true] at hT hfl
      rw [w_id (by omega) (by omega)] at hT
      exact ⟨y.width, hT, wy.1, wy.2, fun h => ⟨hq', by rw [← hfl]; exact h, rfl⟩, fun h => gy.bare hq' (by rw [← hfl]; exact h)⟩
  obtain ⟨yw, hTe, yw0, yw1, hfl1, hfl0⟩ := hTy
  have es : w (a1 - T) = a1 - T := w_id (by omega) (by omega)
  have eq5 := C.eq a1
  rw [← hT, ← hfl, ← hed, es, x95] at eq5
  obtain ⟨p, q, o, hB, _, ho1, ho2⟩ := t95B k b c (a1 - T) ed b1 b2 c1 c2 (by omega) (by omega)
  rw [hB, Option.bind_some] at eq5
  dsimp only at eq5
  have h5 : F5 k L a1 a2 a3 = some (GLine.mk f ((f + N : Nat) : Int) a3 T b c (a1 - T) p q o fl ed (tailOf y n u v).2.2.2.1 (tailOf y n u v).2.2.2.2, 0) := by
    rw [g34 k L a1 a2 a3 lg, eq5]; rfl
  obtain ⟨X, hX⟩ : ∃ X, X = GLine.mk f ((f + N : Nat) : Int) a3 T b c (a1 - T) p q o fl ed (tailOf y n u v).2.2.2.1 (tailOf y n u v).2.2.2.2 := ⟨_, rfl⟩
  rw [← hX] at h5
  have X1 : X.first = (f : Int) := by rw [hX]
  have X2 : X.last = ((f + M.length : Nat) : Int) := by rw [hX, hMl]
  have X3 : X.break_ = a3 := by rw [hX]
  have X4 : X.hyphen = fl := by rw [hX]
  have X5 : X.over_ = o := by rw [hX]
  have X6 : X.end_ = ed := by rw [hX]
  have X7 : X.short = a1 - T := by rw [hX]
  have X8 : X.stretch = b := by rw [hX]
  clear hX
  obtain ⟨m, S, g, h21, hs, hA0, hA1⟩ := t21 k (by omega) row.lenM hF X X7 (by omega) (by omega)
  have h7 := t7 k row (by omega) (by rw [hMl]; exact hM) X X1 X2 lg.chk (y := y) (fun h => by
    rw [X4] at h
    obtain ⟨k1, k2, _⟩ := hfl1 h
    exact ⟨by rw [X3]; omega, by rw [X3]; exact C.at_, k1, k2⟩) h21 hs
  rw [X3, X4] at h7
  rw [← en, ← eb, X6] at hA0
  rw [← en, ← ec] at hA1
  -- where the row ends
  have I := inv_of row hs M.length (Nat.le_refl _)
  have pn := pl_len f M m S g M.length
  have hl := row.lenM
  have bdN := at_bd hs hl hF M.length (Nat.le_refl _)
  have hK : enI M m S g M.length ≤ atI M m S g M.length := by
    rcases I.K with h | ⟨z, q', h0, hq', hk', _⟩
    · exact h
    · have := row.last q' hq'; omega
  obtain ⟨E, hE⟩ : ∃ E, E = (bif fl then atI M m S g M.length + y.width else enI M m S g M.length) := ⟨_, rfl⟩
  have hents : Ents L (plI f M M.length ++ (bif fl then [a3] else [])) (lfI M m S g M.length ++ (bif fl then [atI M m S g M.length] else [])) E ∧ prv L (plI f M M.length ++ (bif fl then [a3] else [])) (lfI M m S g M.length ++ (bif fl then [atI M m S g M.length] else [])) (plI f M M.length ++ (bif fl then [a3] else [])).length = E := by
    cases hfl' : fl with
    | false =>
      rw [hfl'] at hE
      simp only [cond_false, List.append_nil] at hE ⊢
      rw [hE]; exact ⟨I.ents, I.prv⟩
    | true =>
      obtain ⟨k1, k2, k3⟩ := hfl1 hfl'
      have wy := gy.pen k1
      rw [hfl'] at hE
      simp only [cond_true] at hE ⊢
      rw [hE]
      exact ents_snoc I.ents pn.1 (by omega) C.at_ wy.1 wy.2 bdN.1 bdN.2 (fun h => by rw [I.nil h]; exact at_zero M m S g) (fun x' hx => by rw [I.last x' hx]; exact I.la) (by rw [I.prv]; omega) (by omega) (Int.le_refl _)
  -- is there a last thing?
  obtain ⟨la, hla⟩ : ∃ la, la = (fl || decide (0 < N)) := ⟨_, rfl⟩
  have hE1 : la = true → E = atI M m S g M.length + yw := fun h => by
    rw [hE]
    cases hfl' : fl with
    | true => rw [(hfl1 hfl').2.2]; rfl
    | false =>
      rw [hfl', Bool.false_or] at hla
      rw [hla] at h
      have h' : 0 < N := of_decide_eq_true h
      obtain ⟨z, hz⟩ : ∃ z, M[M.length - 1]? = some z := ⟨M[M.length - 1]'(by omega), List.getElem?_eq_getElem (by omega)⟩
      rw [hfl0 hfl', Int.add_zero]
      exact (I.box z (by omega) hz (row.last z hz)).1
  have hE0 : la = false → E = 0 ∧ n = 0 ∧ b = 0 ∧ c = 0 ∧ yw = 0 := fun h => by
    rw [hla, Bool.or_eq_false_iff] at h
    have h0 : M.length = 0 := by have := of_decide_eq_false h.2; omega
    rw [h0] at hE en eb ec
    rw [h.1] at hE
    exact ⟨hE, en, eb, ec, hfl0 h.1⟩
  have hov : o = false → E ≤ a1 := fun h => by
    have h3 : ¬ a1 - T < 0 - c := fun h4 => by have := ho2 h4; rw [h] at this; cases this
    cases hl' : la with
    | false => obtain ⟨k1, k2, k3, k4, k5⟩ := hE0 hl'; omega
    | true =>
      rw [hE1 hl']
      rcases Int.lt_or_le (a1 - T) 0 with h4 | h4
      · rw [hA1 h4, if_pos (by omega)]; omega
      · rw [hA0 h4]; split <;> omega
  have hov1 : o = true → la = true → E > a1 := fun h hl' => by
    obtain ⟨h3, _⟩ := ho1 h
    rw [hE1 hl', hA1 (by omega), if_neg (by omega)]; omega
  have hex : o = false → la = true → ed = false → (b > 0 ∨ a1 - T ≤ 0) → E = a1 := fun h hl' he hb => by
    have h3 : ¬ a1 - T < 0 - c := fun h4 => by have := ho2 h4; rw [h] at this; cases this
    rw [hE1 hl']
    rcases Int.lt_or_le (a1 - T) 0 with h4 | h4
    · rw [hA1 h4, if_pos (by omega)]; omega
    · rw [hA0 h4]
      split
      · omega
      · rename_i hn
        rcases hb with hb | hb
        · exact absurd ⟨hb, he⟩ hn
        · omega
  -- the law's own text
  unfold F3
  rw [h5, Option.bind_some]
  dsimp only
  rw [show ((0 : Int) != 0) = false from rfl, cond_false]
  have h6 : F6 k = some ⟨0, 0, G, 0, 0, G, 0⟩ := rfl
  rw [h6, Option.bind_some, h7, Option.bind_some]
  dsimp only
  obtain ⟨P, hP⟩ : ∃ P, P = plI f M M.length ++ (bif fl then [a3] else []) := ⟨_, rfl⟩
  obtain ⟨Q, hQ⟩ : ∃ Q, Q = lfI M m S g M.length ++ (bif fl then [atI M m S g M.length] else []) := ⟨_, rfl⟩
  have hPl : (P.length : Int) = ((plI f M M.length).length : Int) + (bif fl then 1 else 0) := by rw [hP]; cases fl <;> simp
  have hPQ : P.length = Q.length := by rw [hP, hQ]; cases fl <;> simp [pn.1]
  rw [← hP, ← hQ] at hents
  rw [← hP, ← hQ]
  obtain ⟨me, hme⟩ : ∃ me : GMeter, me = ⟨(M.length : Int) + (bif fl then 1 else 0), (M.length : Int) + (bif fl then 1 else 0), G, ((plI f M M.length).length : Int) + (bif fl then 1 else 0), ((plI f M M.length).length : Int) + (bif fl then 1 else 0), G, 0⟩ := ⟨_, rfl⟩
  rw [← hme]
  rw [show (!((0 : Int) == 0 && ((0 : Int) == 0 && true))) = false from rfl, cond_false, Option.bind_some, show ((P.length : Int) != (Q.length : Int)) = false by rw [hPQ]; simp, cond_false]
  have hl1 := t3_l1 k row (X, 0) X2 (P, Q, ⟨0, 0⟩, me) (bif fl then [a3] else []) hP k 0 (by omega) (by omega)
  rw [X1, show F3_l1 k L (X, 0) (P, Q, GFault.mk 0 0, me) k 0 (f : Int) = _ from hl1, Option.bind_some, Sum.elim_inl, X4, X2, X3]
  have hst : ((f + M.length : Nat) : Int) - (f : Int) = (M.length : Int) := by omega
  have hz1 : (bif fl then (1 : Int) else 0) ≤ 1 := by cases fl <;> decide
  have rle := row.le
  have hP5 : P.length ≤ 5000 := by omega
  have hmid : (bif fl then (Option.bind (α := Bool) (bif decide (((plI f M M.length).length : Int) ≥ (P.length : Int)) then (some true) else (bindI P ((plI f M M.length).length : Int) fun y16 =>
      some (y16 != a3))) fun (v15 : Bool) =>
      bif v15 then (some ((.inr false : (Int × Int) ⊕ Bool))) else (some (.inl (w (((plI f M M.length).length : Int) + 1), w ((w (((f + M.length : Nat) : Int) - (f : Int))) + 1))))) else (some (.inl (((plI f M M.length).length : Int), w (((f + M.length : Nat) : Int) - (f : Int)))))) = some (.inl ((P.length : Int), (M.length : Int) + (bif fl then 1 else 0))) := by
    rw [hst, w_id (n := (M.length : Int)) (by omega) (by omega), hPl]
    cases hfl' : fl with
    | false => simp only [cond_false, Int.add_zero]
    | true =>
      have e2 : P[(((plI f M M.length).length : Nat) : Int).toNat]? = some a3 := by rw [Int.toNat_natCast, hP, hfl']; simp
      simp only [cond_true]
      rw [decide_eq_false (by omega), cond_false, bindI_eq (by omega) e2, Option.bind_some, show (a3 != a3) = false by simp, cond_false, w_id (by omega) (by omega), w_id (by omega) (by omega)]
  rw [hmid, Option.bind_some, Sum.elim_inl]
  dsimp only
  have h8 : F8 k me = some (me.steps_now, me) := rfl
  have h9 : F9 k me = some (me.cells_peak, me) := rfl
  have m1 : me.steps_now = (M.length : Int) + (bif fl then 1 else 0) := by rw [hme]
  have m2 : me.cells_peak = (P.length : Int) := by rw [hme, hPl]
  rw [show ((P.length : Int) != (P.length : Int)) = false by simp, cond_false, h8, Option.bind_some]
  dsimp only
  rw [m1, show (((M.length : Int) + (bif fl then 1 else 0)) != ((M.length : Int) + (bif fl then 1 else 0))) = false by simp, cond_false, h9, Option.bind_some]
  dsimp only
  rw [m2, show ((P.length : Int) != (P.length : Int)) = false by simp, Option.bind_some, Option.bind_some, cond_false]
  have hl2 := t3_l2 k a1 (X, 0) hents.1 hP5 (fun h => hov (by rw [← X5]; exact h)) (P, Q, ⟨0, 0⟩, me) rfl rfl k 0 (by omega) (by omega)
  rw [show F3_l2 k L a1 (X, 0) (P, Q, GFault.mk 0 0, me) k 0 0 = _ from hl2, Option.bind_some, Sum.elim_inl, hents.2]
  have hla' : (Option.bind (α := Bool) (bif fl then (some true) else (Option.bind (α := Bool) (bif decide (((f + M.length : Nat) : Int) > X.first) then (bindI L (w (((f + M.length : Nat) : Int) - 1)) fun y42 =>
      some (y42.kind == 1)) else (some false)) fun (v41 : Bool) => some v41)) fun v40 => some v40) = some la := by
    rw [hla, X1]
    cases hfl' : fl with
    | true => rfl
    | false =>
      rw [cond_false, Bool.false_or]
      by_cases h0 : 0 < N
      · obtain ⟨z, hz⟩ : ∃ z, M[M.length - 1]? = some z := ⟨M[M.length - 1]'(by omega), List.getElem?_eq_getElem (by omega)⟩
        have hz' := row.last z hz
        rw [hat _ (by omega)] at hz
        rw [decide_eq_true (by omega), cond_true, w_id (by omega) (by omega), bindI_eq (y := z) (by omega) (by rw [show (((f + M.length : Nat) : Int) - 1).toNat = f + (M.length - 1) by omega]; exact hz), decide_eq_true h0, hz']
        rfl
      · rw [decide_eq_false (by omega), decide_eq_false h0]; rfl
  have hla2 : (bif fl then (some true) else (Option.bind (α := Bool) (bif decide (((f + M.length : Nat) : Int) > X.first) then (bindI L (w (((f + M.length : Nat) : Int) - 1)) fun y42 =>
      some (y42.kind == 1)) else (some false)) fun (v41 : Bool) => some v41)) = some la := by
    revert hla'
    generalize (bif fl then _ else _ : Option Bool) = z
    intro h
    cases z with
    | none => cases h
    | some b => exact h
  rw [X1] at hla2
  rw [hla2, Option.bind_some, X5, X6, X7, X8]
  cases ho' : o with
  | true =>
    rw [cond_true]
    cases hl' : la with
    | false => rfl
    | true => rw [Bool.not_true, cond_false, decide_eq_true (hov1 ho' hl')]; rfl
  | false =>
    rw [cond_false]
    cases hl' : la with
    | false => rfl
    | true =>
      rw [cond_true]
      cases he : ed with
      | true => rfl
      | false =>
        rw [Bool.not_false, cond_true]
        by_cases hb : b > 0
        · rw [decide_eq_true hb, cond_true, Option.bind_some, Option.bind_some, Option.bind_some, cond_true, hex ho' hl' he (.inl hb)]; simp
        · rw [decide_eq_false hb, cond_false]
          by_cases hn : a1 - T ≤ 0
          · rw [decide_eq_true hn, Option.bind_some, Option.bind_some, Option.bind_some, cond_true, hex ho' hl' he (.inr hn)]; simp
          · rw [decide_eq_false hn]; rfl
end
end Go.Eng.Lift
