/-
  What judge.All computes: enough for the law of the first pages.
-/
import Derived.Test.YtbcgpjfjfnnlcaaXB
set_option linter.unusedVariables false
set_option linter.unusedSimpArgs false
set_option maxRecDepth 10000
namespace Go.Eng.Lift
open Go.Proofs
noncomputable section
theorem w_id {n : Int} (h1 : -9223372036854775808 ≤ n) (h2 : n < 9223372036854775808) : w n = n := by
  unfold w
  first | (rw [wrap64]; omega) | (simp [IntKind.wrap, IntKind.signed, IntKind.bits]; omega)
theorem bindI_eq {α β : Type} {L : List α} {i : Int} {f : α → Option β} {y : α} (h : 0 ≤ i) (hy : L[i.toNat]? = some y) : bindI L i f = f y := by
  unfold bindI
  rw [if_pos h, hy]; rfl
theorem at_of {α : Type} {L : List α} {i : Int} (h : 0 ≤ i) (h2 : i < L.length) : ∃ y, L[i.toNat]? = some y := ⟨_, List.getElem?_eq_getElem (by omega)⟩
theorem bindA_eq {α β : Type} {n : Nat} {L M : List α} {f : List α → Option β} (h : (5 * (L.length + M.length) + 768) * n ≤ 1125899906842624) : bindA n L M f = f (L ++ M) := if_pos h

def Tot {α : Type} (x : Option α) : Prop := ∃ r, x = some r
theorem Tot.bind {α β : Type} {x : Option α} {f : α → Option β} (h : Tot x) (h2 : ∀ a, x = some a → Tot (f a)) : Tot (x.bind f) := by
  obtain ⟨a, ha⟩ := h
  rw [ha]; exact h2 a ha
theorem Tot.bif {α : Type} {b : Bool} {x y : Option α} (h1 : b = true → Tot x) (h2 : b = false → Tot y) : Tot (bif b then x else y) := by
  cases b
  · exact h2 rfl
  · exact h1 rfl
theorem Tot.bindI {α β : Type} {L : List α} {i : Int} {f : α → Option β} (h : 0 ≤ i) (h2 : i < L.length) (h3 : ∀ y, Tot (f y)) : Tot (bindI L i f) := by
  obtain ⟨y, hy⟩ := at_of h h2
  rw [bindI_eq h hy]; exact h3 y

theorem t37 (k : Nat) (a : Int) : Tot (F37 k a) := by
  unfold F37
  repeat (first | exact ⟨_, rfl⟩ | refine Tot.bind ?_ (fun _ _ => ?_) | refine Tot.bif (fun _ => ?_) (fun _ => ?_))
theorem t25 (k : Nat) (a : GChar) : Tot (F25 k a) := by
  unfold F25
  refine Tot.bind (t37 k _) (fun _ _ => ?_)
  repeat (first | exact ⟨_, rfl⟩ | refine Tot.bind ?_ (fun _ _ => ?_) | refine Tot.bif (fun _ => ?_) (fun _ => ?_))
theorem t60 (k : Nat) (a b c : Int) : Tot (F60 k a b c) := by
  unfold F60
  repeat (first | exact ⟨_, rfl⟩ | refine Tot.bind ?_ (fun _ _ => ?_) | refine Tot.bif (fun _ => ?_) (fun _ => ?_))
theorem t42 (k : Nat) (a b c : Int) : Tot (F42 k a b c) := by
  unfold F42
  repeat (first | exact ⟨_, rfl⟩ | refine Tot.bind ?_ (fun _ _ => ?_) | refine Tot.bif (fun _ => ?_) (fun _ => ?_))
theorem t41 (k : Nat) (a : GBox) (p : GPage) : Tot (F41 k a p) := by
  unfold F41
  refine Tot.bind (t60 k _ _ _) (fun _ _ => ?_)
  refine Tot.bind (Tot.bif (fun _ => ⟨_, rfl⟩) (fun _ => Tot.bind (t42 k _ _ _) (fun _ _ => ⟨_, rfl⟩))) (fun _ _ => ⟨_, rfl⟩)

/-- the most that there is of anything -/
def Big : Int := 1099511627776

theorem t29l2 (k : Nat) (p : GPage) (y : GRow) : ∀ (j : Nat) (i : Int), 0 ≤ i → (y.boxes.length : Int) < i + j → i ≤ y.boxes.length → (y.boxes.length : Int) < Big → Tot (F29_l2 k p y j i)
  | 0, i, h0, h1, h2, _ => by omega
  | j + 1, i, h0, h1, h2, h3 => by
    unfold F29_l2
    refine Tot.bif (fun hb => ?_) (fun _ => ⟨_, rfl⟩)
    have hi : i < y.boxes.length := of_decide_eq_true hb
    refine Tot.bindI h0 hi fun z => ?_
    refine Tot.bind (t41 k _ _) fun b _ => ?_
    refine Tot.bif (fun _ => ⟨_, rfl⟩) (fun _ => ?_)
    unfold Big at h3
    rw [w_id (by omega) (by omega)]
    exact t29l2 k p y j (i + 1) (by omega) (by omega) (by omega) (by unfold Big; omega)
theorem t29l1 (k : Nat) (p : GPage) (hr : ∀ y ∈ p.rows, (y.boxes.length : Int) < Big ∧ (y.boxes.length : Int) < k) (hp : (p.rows.length : Int) < Big) : ∀ (j : Nat) (i : Int), 0 ≤ i → (p.rows.length : Int) < i + j → i ≤ p.rows.length → Tot (F29_l1 k p j i)
  | 0, i, h0, h1, h2 => by omega
  | j + 1, i, h0, h1, h2 => by
    unfold F29_l1
    refine Tot.bif (fun hb => ?_) (fun _ => ⟨_, rfl⟩)
    have hi : i < p.rows.length := of_decide_eq_true hb
    have hb := hp
    unfold Big at hb
    refine Tot.bind ?_ (fun s _ => ?_)
    · obtain ⟨y, hy⟩ := at_of h0 hi
      rw [bindI_eq h0 hy]
      have hm := hr y (List.mem_of_getElem? hy)
      refine Tot.bind (t29l2 k p y k 0 (by omega) (by omega) (by omega) hm.1) (fun s _ => ?_)
      cases s <;> exact ⟨_, rfl⟩
    · cases s with
      | inl _ =>
        show Tot (F29_l1 k p j (w (i + 1)))
        rw [w_id (by omega) (by omega)]
        exact t29l1 k p hr hp j (i + 1) (by omega) (by omega) (by omega)
      | inr _ => exact ⟨_, rfl⟩
/-- a page as large as can be -/
def PageOK (k : Nat) (p : GPage) : Prop := (p.rows.length : Int) < Big ∧ (p.rows.length : Int) < k ∧ ∀ y ∈ p.rows, (y.boxes.length : Int) < Big ∧ (y.boxes.length : Int) < k
theorem t29 (k : Nat) (p : GPage) (h : PageOK k p) : Tot (F29 k p) := by
  unfold F29
  refine Tot.bind (t29l1 k p h.2.2 h.1 k 0 (by omega) (by have := h.2.1; omega) (by omega)) (fun s _ => ?_)
  cases s <;> exact ⟨_, rfl⟩

theorem t28 (k : Nat) (sp : Gspot) (b : Bool) (rule : Int) (f : List Gspot) (s : List Int) (t : List GChar) (l : List Int) (last : Int) (out : List GWrong) (ho : out.length ≤ 1099511627776) :
    F28_s k sp b rule f s t l last out = some (f, s, t, l, last, out ++ (bif b then [⟨sp.page, sp.row, rule⟩] else [])) := by
  unfold F28_s
  cases b with
  | false => simp only [cond_false, Option.bind_some, List.append_nil]
  | true =>
    simp only [cond_true]
    rw [bindA_eq (by simp only [List.length_singleton]; omega)]
    rfl

/-! ### The text's part -/
/-- what is written of a text: first places, loud places -/
structure TextOK (k : Nat) (f : List Gspot) (t : List GChar) (l : List Int) : Prop where
  first : ∀ a ∈ f, 0 ≤ a.row
  tb : (t.length : Int) < Big
  tk : (t.length : Int) < k
  lb : (l.length : Int) < Big
  lk : (l.length : Int) < k

theorem lkI_nonneg {f : List Gspot} (h : ∀ a ∈ f, 0 ≤ a.row) (n : Int) : 0 ≤ lkI Gspot.page Gspot.row n f := by
  unfold lkI
  have key : ∀ (f : List Gspot), (∀ a ∈ f, 0 ≤ a.row) → ∀ a, lk Gspot.page n f = some a → 0 ≤ a.row := by
    intro f
    induction f with
    | nil => intro _ a h; cases h
    | cons x f ih =>
      intro hf a ha
      unfold lk at ha
      cases hb : n == x.page with
      | true => rw [hb] at ha; cases ha; exact hf _ List.mem_cons_self
      | false => rw [hb] at ha; exact ih (fun a ha => hf a (List.mem_cons_of_mem _ ha)) a ha
  cases hl : lk Gspot.page n f with
  | none => exact Int.le_refl 0
  | some a => exact key f h a hl

theorem t43l (k : Nat) (x : GBox) (f : List Gspot) (s : List Int) (t : List GChar) (l : List Int) (hT : TextOK k f t l) : ∀ (j : Nat) (i : Int), 1 ≤ j → 0 ≤ i → (t.length : Int) < i + j →
    (∀ last out, F43_s_l1 k x f s t l last out j i = some (.inl ())) ∨ ∃ b, ∀ last out, F43_s_l1 k x f s t l last out j i = some (.inr (b, f, s, t, l, last, out))
  | 0, i, hj, h0, h1 => absurd hj (by omega)
  | j + 1, i, hj, h0, h1 => by
    unfold F43_s_l1
    cases hb : decide (i < (t.length : Int)) with
    | false => exact .inl fun _ _ => rfl
    | true =>
      have hi : i < t.length := of_decide_eq_true hb
      obtain ⟨y, hy⟩ := at_of h0 hi
      simp only [cond_true, bindI_eq h0 hy]
      cases h2 : y.to_ == x.to_ with
      | true =>
        refine .inr ?_
        simp only [cond_true]
        cases i == lkI Gspot.page Gspot.row x.from_ f with
        | true => exact ⟨_, fun _ _ => rfl⟩
        | false => exact ⟨_, fun _ _ => rfl⟩
      | false =>
        simp only [cond_false]
        have := hT.tb
        unfold Big at this
        rw [w_id (by omega) (by omega)]
        exact t43l k x f s t l hT j (i + 1) (by omega) (by omega) (by omega)
theorem t43 (k : Nat) (x : GBox) (f : List Gspot) (s : List Int) (t : List GChar) (l : List Int) (hT : TextOK k f t l) : ∃ b, ∀ last out, F43_s k x f s t l last out = some (b, f, s, t, l, last, out) := by
  unfold F43_s
  cases x.from_ == x.to_ with
  | true =>
    simp only [cond_true]
    cases x.rune != 45 <;> exact ⟨_, fun _ _ => rfl⟩
  | false =>
    simp only [cond_false]
    cases decide (x.from_ > x.to_) with
    | true => exact ⟨_, fun _ _ => rfl⟩
    | false =>
      simp only [cond_false]
      cases !(lkB Gspot.page x.from_ f) with
      | true => exact ⟨_, fun _ _ => rfl⟩
      | false =>
        simp only [cond_false]
        have h1 := lkI_nonneg hT.first x.from_
        have h2 := hT.tk
        rcases t43l k x f s t l hT k (lkI Gspot.page Gspot.row x.from_ f) (by omega) h1 (by omega) with h | ⟨b, h⟩
        · exact ⟨true, fun last out => by rw [h]; rfl⟩
        · exact ⟨b, fun last out => by rw [h]; rfl⟩

theorem w_u64_id {n : Int} (h1 : 0 ≤ n) (h2 : n < 9223372036854775808) : w_u64 n = n := by
  unfold w_u64
  simp [IntKind.wrap, IntKind.signed, IntKind.bits]; omega
theorem mid_id {a b : Int} (h0 : 0 ≤ a) (h1 : a < b) (hb : b < Big) : w (Int.fdiv (w_u64 (w (a + b))) (2 ^ 1)) = (a + b) / 2 := by
  unfold Big at hb
  rw [w_id (n := a + b) (by omega) (by omega), w_u64_id (by omega) (by omega), Int.fdiv_eq_ediv_of_nonneg _ (by decide)]
  exact w_id (by omega) (by omega)
theorem e55 (k : Nat) (a b : Int) : F55 k a b = some (decide (a < b)) := by
  unfold F55 F70
  simp
theorem t44l (k : Nat) (l : List Int) (x : Int) (hl : (l.length : Int) < Big) : ∀ (j : Nat) (a b : Int), 0 ≤ a → a ≤ b → b ≤ l.length → b - a < j → ∃ r, F44_l1 k l x j a b = some r ∧ 0 ≤ r ∧ r ≤ l.length
  | 0, a, b, h0, h1, h2, h3 => by omega
  | j + 1, a, b, h0, h1, h2, h3 => by
    unfold F44_l1
    cases hb : decide (a < b) with
    | false => exact ⟨a, rfl, h0, by omega⟩
    | true =>
      have hab : a < b := of_decide_eq_true hb
      simp only [cond_true]
      rw [mid_id h0 hab (by omega)]
      obtain ⟨y, hy⟩ := at_of (L := l) (i := (a + b) / 2) (by omega) (by omega)
      rw [bindI_eq (by omega) hy, e55]
      have hb2 := hl
      unfold Big at hb2
      cases decide (y < x) with
      | true =>
        simp only [Option.bind_some, cond_true]
        rw [w_id (n := (a + b) / 2 + 1) (by omega) (by omega)]
        exact t44l k l x hl j ((a + b) / 2 + 1) b (by omega) (by omega) h2 (by omega)
      | false =>
        simp only [Option.bind_some, cond_false]
        exact t44l k l x hl j a ((a + b) / 2) h0 (by omega) (by omega) (by omega)
theorem t44 (k : Nat) (l : List Int) (x : Int) (hl : (l.length : Int) < Big) (hk : (l.length : Int) < k) : ∃ r, F44 k l x = some r ∧ 0 ≤ r.1 := by
  unfold F44
  obtain ⟨r, h1, h2, h3⟩ := t44l k l x hl k 0 l.length (by omega) (by omega) (by omega) (by omega)
  rw [h1, Option.bind_some]
  have key : Tot (bif decide (r < (l.length : Int)) then (bindI l r fun y12 =>
    Option.bind (α := Bool) (bif y12 == x then (some true) else (bindI l r fun y14 =>
    (F61 k y14).bind fun r25 =>
    Option.bind (α := Bool) (bif r25 then ((F61 k x).bind fun r30 =>
    some r30) else (some false)) fun (v15 : Bool) =>
    some v15)) fun (v13 : Bool) =>
    some v13) else (some false)) := by
    refine Tot.bif (fun hb => ?_) (fun _ => ⟨_, rfl⟩)
    have hr : r < l.length := of_decide_eq_true hb
    refine Tot.bindI h2 hr fun y => ?_
    refine Tot.bind (Tot.bif (fun _ => ⟨_, rfl⟩) (fun _ => Tot.bindI h2 hr fun y => ?_)) fun _ _ => ⟨_, rfl⟩
    unfold F61
    repeat (first | exact ⟨_, rfl⟩ | refine Tot.bind ?_ (fun _ _ => ?_) | refine Tot.bif (fun _ => ?_) (fun _ => ?_))
  obtain ⟨b, hb⟩ := key
  rw [hb]
  exact ⟨(r, b), rfl, h2⟩
theorem t31 (k : Nat) (a b : Int) (c : Bool) (f : List Gspot) (s : List Int) (t : List GChar) (l : List Int) (hT : TextOK k f t l) : ∃ r, ∀ last out, F31_s k a b c f s t l last out = some (r, f, s, t, l, last, out) := by
  obtain ⟨r, h1, h2⟩ := t44 k l a hT.lb hT.lk
  unfold F31_s
  have key : Tot (bif decide (r.1 < (l.length : Int)) then (Option.bind (α := Bool) (bif c then (some true) else (bindI l r.1 fun y3 =>
    some (decide (y3 < b)))) fun (v2 : Bool) =>
    some v2) else (some false)) := by
    refine Tot.bif (fun hb => ?_) (fun _ => ⟨_, rfl⟩)
    have hr : r.1 < l.length := of_decide_eq_true hb
    exact Tot.bind (Tot.bif (fun _ => ⟨_, rfl⟩) (fun _ => Tot.bindI h2 hr fun y => ⟨_, rfl⟩)) fun _ _ => ⟨_, rfl⟩
  obtain ⟨v, hv⟩ := key
  refine ⟨v, fun last out => ?_⟩
  rw [h1, Option.bind_some, hv]
  rfl

/-! ### A row -/
theorem t30l (k : Nat) (p : GPage) (y : GRow) (f : List Gspot) (s : List Int) (t : List GChar) (l : List Int) (hT : TextOK k f t l) (hy : (y.boxes.length : Int) < Big) : ∀ (j : Nat) (i : Int) (b1 b2 b3 b4 : Bool) (last : Int), 0 ≤ i → i ≤ y.boxes.length → (y.boxes.length : Int) < i + j →
    ∃ c1 c2 c3 c4 last', ∀ out, F30_s_l1 k p y j b1 b2 b3 b4 i f s t l last out = some (c1, c2, c3, c4, f, s, t, l, last', out)
  | 0, i, b1, b2, b3, b4, last, h0, h1, h2 => by omega
  | j + 1, i, b1, b2, b3, b4, last, h0, h1, h2 => by
    unfold F30_s_l1
    cases hb : decide (i < (y.boxes.length : Int)) with
    | false => exact ⟨b1, b2, b3, b4, last, fun out => rfl⟩
    | true =>
      have hi : i < y.boxes.length := of_decide_eq_true hb
      have hyb := hy
      unfold Big at hyb
      obtain ⟨x, hx⟩ := at_of h0 hi
      simp only [cond_true, bindI_eq h0 hx]
      rw [w_id (n := i + 1) (by omega) (by omega)]
      obtain ⟨d1, e1⟩ : Tot (bif b1 then (some true) else (Option.bind (α := Bool) (bif decide (i > 0) then (bindI y.boxes (w (i - 1)) fun y49 =>
          Option.bind (α := Bool) (bif decide (x.x < y49.x) then (some true) else (Option.bind (α := Bool) (bif x.y != y.y then (some true) else (Option.bind (α := Bool) (bif decide (x.from_ < last) then (some true) else (some (decide (x.to_ < x.from_)))) fun (v52 : Bool) =>
          some v52)) fun (v51 : Bool) =>
          some v51)) fun (v50 : Bool) =>
          some v50) else (Option.bind (α := Bool) (bif x.y != y.y then (some true) else (Option.bind (α := Bool) (bif decide (x.from_ < last) then (some true) else (some (decide (x.to_ < x.from_)))) fun (v54 : Bool) =>
          some v54)) fun (v53 : Bool) =>
          some v53)) fun (v48 : Bool) =>
          some v48)) := by
        refine Tot.bif (fun _ => ⟨_, rfl⟩) (fun _ => Tot.bind (Tot.bif (fun hb2 => ?_) (fun _ => ?_)) fun _ _ => ⟨_, rfl⟩)
        · have hi2 : i > 0 := of_decide_eq_true hb2
          rw [w_id (n := i - 1) (by omega) (by omega)]
          refine Tot.bindI (by omega) (by omega) fun z => ?_
          repeat (first | exact ⟨_, rfl⟩ | refine Tot.bind ?_ (fun _ _ => ?_) | refine Tot.bif (fun _ => ?_) (fun _ => ?_))
        · repeat (first | exact ⟨_, rfl⟩ | refine Tot.bind ?_ (fun _ _ => ?_) | refine Tot.bif (fun _ => ?_) (fun _ => ?_))
      obtain ⟨d2, e2⟩ : Tot (bif b2 then (some true) else (Option.bind (α := Bool) (bif decide (x.x < 0) then (some true) else (Option.bind (α := Bool) (bif !y.over_ then ((F42 k x.x x.width p.width).bind fun r52 =>
          Option.bind (α := Bool) (bif r52 then (some true) else (Option.bind (α := Bool) (bif !p.over_ then ((F41 k x p).bind fun r60 =>
          some r60) else (some false)) fun (v59 : Bool) =>
          some v59)) fun (v58 : Bool) =>
          some v58) else (Option.bind (α := Bool) (bif !p.over_ then ((F41 k x p).bind fun r67 =>
          some r67) else (some false)) fun (v60 : Bool) =>
          some v60)) fun (v57 : Bool) =>
          some v57)) fun (v56 : Bool) =>
          some v56)) := by
        repeat (first | exact ⟨_, rfl⟩ | exact t41 _ _ _ | exact t42 _ _ _ _ | refine Tot.bind ?_ (fun _ _ => ?_) | refine Tot.bif (fun _ => ?_) (fun _ => ?_))
      obtain ⟨d4, e4⟩ : Tot (bif b4 then (some true) else ((F42 k x.x x.width p.width).bind fun r76 =>
          some r76)) := by
        repeat (first | exact ⟨_, rfl⟩ | exact t41 _ _ _ | exact t42 _ _ _ _ | refine Tot.bind ?_ (fun _ _ => ?_) | refine Tot.bif (fun _ => ?_) (fun _ => ?_))
      obtain ⟨d3, e3⟩ : ∃ d3, ∀ out, (bif b3 then (some (true, f, s, t, l, last, out)) else ((F43_s k x f s t l last out).bind fun r82 =>
          Option.bind (α := Bool × (List Gspot) × (List Int) × (List GChar) × (List Int) × Int × (List GWrong)) (bif r82.1 then (some (true, r82.2.1, r82.2.2.1, r82.2.2.2.1, r82.2.2.2.2.1, r82.2.2.2.2.2.1, r82.2.2.2.2.2.2)) else ((F31_s k r82.2.2.2.2.2.1 x.from_ false r82.2.1 r82.2.2.1 r82.2.2.2.1 r82.2.2.2.2.1 r82.2.2.2.2.2.1 r82.2.2.2.2.2.2).bind fun r87 =>
          some (r87.1, r87.2.1, r87.2.2.1, r87.2.2.2.1, r87.2.2.2.2.1, r87.2.2.2.2.2.1, r87.2.2.2.2.2.2))) fun (v69, v70, v71, v72, v73, v74, v75) =>
          some (v69, v70, v71, v72, v73, v74, v75))) = some (d3, f, s, t, l, last, out) := by
        cases b3 with
        | true => exact ⟨true, fun out => rfl⟩
        | false =>
          obtain ⟨b, hb⟩ := t43 k x f s t l hT
          obtain ⟨r, hr⟩ := t31 k last x.from_ false f s t l hT
          cases b with
          | true => exact ⟨true, fun out => by rw [hb]; rfl⟩
          | false => exact ⟨r, fun out => by
              rw [hb]
              simp only [cond_false, Option.bind_some, hr]⟩
      obtain ⟨c1, c2, c3, c4, last', hrec⟩ := t30l k p y f s t l hT hy j (i + 1) d1 d2 d3 d4 (if x.to_ > last then x.to_ else last) (by omega) (by omega) (by omega)
      refine ⟨c1, c2, c3, c4, last', fun out => ?_⟩
      rw [e1]; simp only [Option.bind_some]
      rw [e2]; simp only [Option.bind_some]
      rw [e4]; simp only [Option.bind_some]
      rw [e3]; simp only [Option.bind_some]
      exact hrec out
def At (sp : Gspot) (e : GWrong) : Prop := e.page = sp.page ∧ e.row = sp.row
def RowSz (k : Nat) (y : GRow) : Prop := (y.boxes.length : Int) < Big ∧ (y.boxes.length : Int) < k
def one (b : Bool) (sp : Gspot) (rule : Int) : List GWrong := bif b then [⟨sp.page, sp.row, rule⟩] else []
theorem one_at (b : Bool) (sp : Gspot) (rule : Int) : (∀ e ∈ one b sp rule, At sp e) ∧ (one b sp rule).length ≤ 1 := by
  cases b with
  | true => exact ⟨fun e he => by rw [List.mem_singleton.1 he]; exact ⟨rfl, rfl⟩, Nat.le_refl _⟩
  | false => exact ⟨fun e he => (by cases he), Nat.zero_le _⟩
theorem t28' (k : Nat) (sp : Gspot) (b : Bool) (rule : Int) (f : List Gspot) (s : List Int) (t : List GChar) (l : List Int) (last : Int) (out : List GWrong) (ho : out.length ≤ 1099511627776) :
    F28_s k sp b rule f s t l last out = some (f, s, t, l, last, out ++ one b sp rule) := t28 k sp b rule f s t l last out ho

theorem t30 (k : Nat) (sp : Gspot) (p : GPage) (y : GRow) (ah : Option GRow) (f : List Gspot) (s : List Int) (t : List GChar) (l : List Int) (last : Int) (hT : TextOK k f t l) (hy : RowSz k y) :
    ∃ last' es, (∀ e ∈ es, At sp e) ∧ es.length ≤ 4 ∧ ∀ out : List GWrong, out.length ≤ 1099511627770 → F30_s k sp p y ah f s t l last out = some (f, s, t, l, last', out ++ es) := by
  obtain ⟨d0, e0⟩ : Tot (bif (ah).isSome then ((ah).bind fun y2 =>
      some (decide (y.y < y2.y))) else (some false)) := by
    cases ah with
    | none => exact ⟨_, rfl⟩
    | some z => exact ⟨_, rfl⟩
  obtain ⟨c1, c2, c3, c4, last', h⟩ := t30l k p y f s t l hT hy.1 k 0 d0 false false false last (by omega) (by omega) (by have := hy.2; omega)
  obtain ⟨d5, e5⟩ : Tot (bif y.over_ then (Option.bind (α := Bool) (bif !c4 then (some true) else (some y.loose)) fun (v77 : Bool) =>
      some v77) else (some false)) := by
    repeat (first | exact ⟨_, rfl⟩ | refine Tot.bind ?_ (fun _ _ => ?_) | refine Tot.bif (fun _ => ?_) (fun _ => ?_))
  have a1 := one_at c1 sp 1
  have a2 := one_at c2 sp 2
  have a3 := one_at c3 sp 3
  have a4 := one_at d5 sp 4
  refine ⟨last', one c1 sp 1 ++ one c2 sp 2 ++ one c3 sp 3 ++ one d5 sp 4, fun e he => ?_, ?_, fun out ho => ?_⟩
  · simp only [List.mem_append] at he
    rcases he with ((he | he) | he) | he
    · exact a1.1 e he
    · exact a2.1 e he
    · exact a3.1 e he
    · exact a4.1 e he
  · simp only [List.length_append]
    have := a1.2; have := a2.2; have := a3.2; have := a4.2
    omega
  · unfold F30_s
    rw [e0]; simp only [Option.bind_some]
    rw [h]; simp only [Option.bind_some]
    have := a1.2; have := a2.2; have := a3.2; have := a4.2
    rw [t28' k sp c1 1 f s t l last' out (by omega)]; simp only [Option.bind_some]
    rw [t28' k sp c2 2 f s t l last' _ (by simp only [List.length_append]; omega)]; simp only [Option.bind_some]
    rw [t28' k sp c3 3 f s t l last' _ (by simp only [List.length_append]; omega)]; simp only [Option.bind_some]
    rw [e5]; simp only [Option.bind_some]
    rw [t28' k sp d5 4 f s t l last' _ (by simp only [List.length_append]; omega)]; simp only [Option.bind_some, List.append_assoc]

/-! ### All rows -/
structure SpotOK (k : Nat) (ps : List GPage) (x : Gspot × GRow) : Prop where
  at0 : 0 ≤ x.1.page
  at1 : x.1.page < ps.length
  row : RowSz k x.2

theorem r2 (k : Nat) (f : List Gspot) (s : List Int) (t : List GChar) (l : List Int) (hT : TextOK k f t l) (ps : List GPage) (hps : ∀ p ∈ ps, PageOK k p) : ∀ (A : List (Gspot × GRow)) (last : Int) (at_ : Gspot) (ah : Option GRow), (∀ x ∈ A, SpotOK k ps x) →
    ∃ last' es at' ah', (∀ e ∈ es, ∃ x ∈ A, At x.1 e) ∧ es.length ≤ 4 * A.length ∧ (at' = at_ ∨ ∃ x ∈ A, at' = x.1) ∧ ∀ (qs : List GPage) (out : List GWrong), out.length + 4 * A.length ≤ 1099511627770 → (∀ x ∈ A, qs[x.1.page.toNat]? = ps[x.1.page.toNat]?) →
      ∀ B, F9_r2 k qs (A ++ B) f s t l last out at_ ah = F9_r2 k qs B f s t l last' (out ++ es) at' ah'
  | [], last, at_, ah, _ => ⟨last, [], at_, ah, fun e he => (by cases he), Nat.zero_le _, .inl rfl, fun qs out _ _ B => by rw [List.append_nil]; rfl⟩
  | x :: A, last, at_, ah, hA => by
    have hx := hA x List.mem_cons_self
    have hA' : ∀ y ∈ A, SpotOK k ps y := fun y hy => hA y (List.mem_cons_of_mem _ hy)
    obtain ⟨p, hp⟩ := at_of hx.at0 hx.at1
    have hpp := hps p (List.mem_of_getElem? hp)
    cases hb : decide (x.1.row < 0) with
    | true =>
      obtain ⟨b, hb29⟩ := t29 k p hpp
      obtain ⟨last', es, at', ah', q1, q2, q3, q4⟩ := r2 k f s t l hT ps hps A last at_ none hA'
      have o1 := one_at b x.1 4
      refine ⟨last', one b x.1 4 ++ es, at', ah', fun e he => ?_, ?_, ?_, fun qs out ho hq B => ?_⟩
      · rcases List.mem_append.1 he with h | h
        · exact ⟨x, List.mem_cons_self, o1.1 e h⟩
        · obtain ⟨y, hy, hy2⟩ := q1 e h
          exact ⟨y, List.mem_cons_of_mem _ hy, hy2⟩
      · have := o1.2
        simp only [List.length_append, List.length_cons]; omega
      · rcases q3 with h | ⟨y, hy, h⟩
        · exact .inl h
        · exact .inr ⟨y, List.mem_cons_of_mem _ hy, h⟩
      · have := o1.2
        simp only [List.length_cons] at ho
        rw [List.cons_append, F9_r2]
        rw [hb, cond_true, bindI_eq hx.at0 ((hq x List.mem_cons_self).trans hp), hb29]
        simp only [Option.bind_some]
        rw [t28' k x.1 b 4 f s t l last out (by omega)]
        simp only [Option.bind_some]
        rw [q4 qs (out ++ one b x.1 4) (by simp only [List.length_append]; omega) (fun y hy => hq y (List.mem_cons_of_mem _ hy)) B, List.append_assoc]
    | false =>
      obtain ⟨last1, es1, p1, p2, p3⟩ := t30 k x.1 p x.2 ah f s t l last hT hx.row
      obtain ⟨last', es, at', ah', q1, q2, q3, q4⟩ := r2 k f s t l hT ps hps A last1 x.1 (some x.2) hA'
      refine ⟨last', es1 ++ es, at', ah', fun e he => ?_, ?_, ?_, fun qs out ho hq B => ?_⟩
      · rcases List.mem_append.1 he with h | h
        · exact ⟨x, List.mem_cons_self, p1 e h⟩
        · obtain ⟨y, hy, hy2⟩ := q1 e h
          exact ⟨y, List.mem_cons_of_mem _ hy, hy2⟩
      · simp only [List.length_append, List.length_cons]; omega
      · rcases q3 with h | ⟨y, hy, h⟩
        · exact .inr ⟨x, List.mem_cons_self, h⟩
        · exact .inr ⟨y, List.mem_cons_of_mem _ hy, h⟩
      · simp only [List.length_cons] at ho
        rw [List.cons_append, F9_r2]
        rw [hb, cond_false, bindI_eq hx.at0 ((hq x List.mem_cons_self).trans hp)]
        rw [p3 out (by omega)]
        simp only [Option.bind_some]
        rw [q4 qs (out ++ es1) (by simp only [List.length_append]; omega) (fun y hy => hq y (List.mem_cons_of_mem _ hy)) B, List.append_assoc]

/-! ### The rows of pages -/
theorem rowsR_app (i : Int) : ∀ (rs : List GRow) (j : Int) (t : List (Gspot × GRow)), rowsR i j rs t = rowsR i j rs [] ++ t
  | [], j, t => rfl
  | r :: rs, j, t => by unfold rowsR; rw [rowsR_app i rs (j + 1) t, List.cons_append]
theorem rowsP_cons (i : Int) (p : GPage) (ps : List GPage) : rowsP i (p :: ps) = (⟨i, -1⟩, zRow) :: (rowsR i 0 p.rows [] ++ rowsP (i + 1) ps) := by
  show (_ : Gspot × GRow) :: rowsR i 0 p.rows (rowsP (i + 1) ps) = _
  rw [rowsR_app]
theorem rowsP_app : ∀ (ps qs : List GPage) (i : Int), rowsP i (ps ++ qs) = rowsP i ps ++ rowsP (i + ps.length) qs
  | [], qs, i => by show rowsP i qs = [] ++ rowsP (i + ((0 : Nat) : Int)) qs; rw [List.nil_append, show i + ((0 : Nat) : Int) = i by omega]
  | p :: ps, qs, i => by
    rw [List.cons_append, rowsP_cons, rowsP_cons, rowsP_app ps qs (i + 1), List.cons_append, List.append_assoc, List.length_cons, show i + 1 + (ps.length : Int) = i + ((ps.length + 1 : Nat) : Int) by omega]
theorem rowsR_mem (i : Int) : ∀ (rs : List GRow) (j : Int) (x : Gspot × GRow), x ∈ rowsR i j rs [] → x.1.page = i ∧ x.2 ∈ rs
  | [], j, x, h => by cases h
  | r :: rs, j, x, h => by
    unfold rowsR at h
    rcases List.mem_cons.1 h with h | h
    · subst h; exact ⟨rfl, List.mem_cons_self⟩
    · obtain ⟨h1, h2⟩ := rowsR_mem i rs (j + 1) x h
      exact ⟨h1, List.mem_cons_of_mem _ h2⟩
theorem rowsP_mem : ∀ (ps : List GPage) (i : Int) (x : Gspot × GRow), x ∈ rowsP i ps → i ≤ x.1.page ∧ x.1.page < i + ps.length ∧ (x.2 = zRow ∨ ∃ p ∈ ps, x.2 ∈ p.rows)
  | [], i, x, h => by cases h
  | p :: ps, i, x, h => by
    rw [rowsP_cons] at h
    simp only [List.length_cons]
    rcases List.mem_cons.1 h with h | h
    · subst h; exact ⟨Int.le_refl _, by show i < _; omega, .inl rfl⟩
    · rcases List.mem_append.1 h with h | h
      · obtain ⟨h1, h2⟩ := rowsR_mem i p.rows 0 x h
        exact ⟨by omega, by omega, .inr ⟨p, List.mem_cons_self, h2⟩⟩
      · obtain ⟨h1, h2, h3⟩ := rowsP_mem ps (i + 1) x h
        exact ⟨by omega, by omega, h3.elim .inl fun ⟨q, hq, hq2⟩ => .inr ⟨q, List.mem_cons_of_mem _ hq, hq2⟩⟩
theorem spots_ok {k : Nat} {ps : List GPage} (hk : 0 < k) (h : ∀ p ∈ ps, PageOK k p) {x : Gspot × GRow} (hx : x ∈ rowsP 0 ps) : SpotOK k ps x := by
  obtain ⟨h1, h2, h3⟩ := rowsP_mem ps 0 x hx
  refine ⟨h1, by omega, ?_⟩
  rcases h3 with h3 | ⟨p, hp, hr⟩
  · rw [h3]; exact ⟨by decide, by show ((0 : Nat) : Int) < k; omega⟩
  · exact (h p hp).2.2 _ hr

/-! ### The end -/
def ne3 (e : GWrong) : Bool := e.rule != 3
theorem t32l1 (k : Nat) (sp : Gspot) (f : List Gspot) (s : List Int) (t : List GChar) (l : List Int) (last : Int) (out : List GWrong) (ho : (out.length : Int) < Big) : ∀ (j : Nat) (i : Int), 0 ≤ i → i ≤ out.length → (out.length : Int) < i + j →
    F32_s_l1 k sp f s t l last out j i = some (.inl ()) ∨ F32_s_l1 k sp f s t l last out j i = some (.inr (f, s, t, l, last, out))
  | 0, i, h0, h1, h2 => by omega
  | j + 1, i, h0, h1, h2 => by
    rw [F32_s_l1]
    cases hb : decide (i < (out.length : Int)) with
    | false => exact .inl rfl
    | true =>
      have hi : i < out.length := of_decide_eq_true hb
      obtain ⟨y, hy⟩ := at_of h0 hi
      rw [cond_true, bindI_eq h0 hy]
      unfold Big at ho
      rw [w_id (n := i + 1) (by omega) (by omega)]
      have ih := t32l1 k sp f s t l last out ho j (i + 1) (by omega) (by omega) (by omega)
      cases y.page == sp.page with
      | false => exact ih
      | true =>
        cases hr : y.row == sp.row with
        | false => simp only [cond_true, Option.bind_some, cond_false]; exact ih
        | true =>
          cases hq : y.rule == 3 with
          | false => simp only [cond_true, Option.bind_some, cond_false]; exact ih
          | true => simp only [cond_true, Option.bind_some]; exact .inr trivial

theorem t32l2 (k : Nat) (sp : Gspot) (out : List GWrong) (ho : (out.length : Int) < 1099511627000) : ∀ (j : Nat) (i : Nat) (v : List GWrong) (b : Bool), i ≤ out.length → out.length < i + j → v.length ≤ i + 1 → v.filter ne3 = (out.take i).filter ne3 → (∀ e ∈ v, e ∈ out ∨ e = ⟨sp.page, sp.row, 3⟩) → (b = false → v.length ≤ i) →
    ∃ v' b', F32_s_l2 k sp out j v b i = some (v', b') ∧ v'.filter ne3 = out.filter ne3 ∧ (∀ e ∈ v', e ∈ out ∨ e = ⟨sp.page, sp.row, 3⟩) ∧ v'.length ≤ out.length + 1 ∧ (b' = false → v'.length ≤ out.length)
  | 0, i, v, b, h1, h2, h3, h4, h5, h6 => by omega
  | j + 1, i, v, b, h1, h2, h3, h4, h5, h6 => by
    rw [F32_s_l2]
    cases hb : decide ((i : Int) < (out.length : Int)) with
    | false =>
      have hi : ¬ (i : Int) < out.length := of_decide_eq_false hb
      rw [List.take_of_length_le (by omega)] at h4
      exact ⟨v, b, rfl, h4, h5, by omega, fun hq => by have := h6 hq; omega⟩
    | true =>
      have hi : (i : Int) < out.length := of_decide_eq_true hb
      obtain ⟨y, hy⟩ := at_of (L := out) (i := (i : Int)) (by omega) hi
      have hy' : out[i]? = some y := by rw [show (i : Int).toNat = i by omega] at hy; exact hy
      rw [cond_true, bindI_eq (by omega) hy]
      have htake : (out.take (i + 1)).filter ne3 = (out.take i).filter ne3 ++ [y].filter ne3 := by
        rw [← List.filter_append]
        congr 1
        rw [List.take_add_one, hy']; rfl
      have hm : y ∈ out := List.mem_of_getElem? hy'
      obtain ⟨c, hc, hcb⟩ : ∃ c, (bif !b then (Option.bind (α := Bool) (bif decide (y.page > sp.page) then (some true) else (Option.bind (α := Bool) (bif y.page == sp.page then (Option.bind (α := Bool) (bif decide (y.row > sp.row) then (some true) else (Option.bind (α := Bool) (bif y.row == sp.row then (some (decide (y.rule > 3))) else (some false)) fun (v23 : Bool) =>
          some v23)) fun (v22 : Bool) =>
          some v22) else (some false)) fun (v21 : Bool) =>
          some v21)) fun (v20 : Bool) =>
          some v20) else (some false)) = some c ∧ (c = true → b = false) := by
        cases b with
        | true => exact ⟨false, rfl, fun h => by cases h⟩
        | false =>
          obtain ⟨c, hc⟩ : Tot (bif !false then (Option.bind (α := Bool) (bif decide (y.page > sp.page) then (some true) else (Option.bind (α := Bool) (bif y.page == sp.page then (Option.bind (α := Bool) (bif decide (y.row > sp.row) then (some true) else (Option.bind (α := Bool) (bif y.row == sp.row then (some (decide (y.rule > 3))) else (some false)) fun (v23 : Bool) =>
              some v23)) fun (v22 : Bool) =>
              some v22) else (some false)) fun (v21 : Bool) =>
              some v21)) fun (v20 : Bool) =>
              some v20) else (some false)) := by
            repeat (first | exact ⟨_, rfl⟩ | refine Tot.bind ?_ (fun _ _ => ?_) | refine Tot.bif (fun _ => ?_) (fun _ => ?_))
          exact ⟨c, hc, fun _ => rfl⟩
      rw [hc]
      simp only [Option.bind_some]
      have wi : w ((i : Int) + 1) = ((i + 1 : Nat) : Int) := by rw [w_id (by omega) (by omega)]; omega
      rw [wi]
      cases c with
      | true =>
        have hv := h6 (hcb rfl)
        simp only [cond_true]
        rw [bindA_eq (by simp only [List.length_singleton]; omega)]
        simp only [Option.bind_some]
        rw [bindA_eq (by simp only [List.length_singleton, List.length_append]; omega)]
        refine t32l2 k sp out ho j (i + 1) _ true (by omega) (by omega) (by simp only [List.length_singleton, List.length_append]; omega) ?_ (fun e he => ?_) (fun h => by cases h)
        · rw [htake, List.filter_append, List.filter_append, h4]
          have : List.filter ne3 [(⟨sp.page, sp.row, 3⟩ : GWrong)] = [] := rfl
          rw [this, List.append_nil]
        · simp only [List.mem_append, List.mem_singleton] at he
          rcases he with (he | he) | he
          · exact h5 e he
          · exact .inr he
          · exact .inl (by rw [he]; exact hm)
      | false =>
        simp only [cond_false, Option.bind_some]
        rw [bindA_eq (by simp only [List.length_singleton]; omega)]
        refine t32l2 k sp out ho j (i + 1) _ b (by omega) (by omega) (by simp only [List.length_singleton, List.length_append]; omega) ?_ (fun e he => ?_) (fun h => by have := h6 h; simp only [List.length_singleton, List.length_append]; omega)
        · rw [htake, List.filter_append, h4]
        · simp only [List.mem_append, List.mem_singleton] at he
          rcases he with he | he
          · exact h5 e he
          · exact .inl (by rw [he]; exact hm)

theorem t32 (k : Nat) (sp : Gspot) (f : List Gspot) (s : List Int) (t : List GChar) (l : List Int) (last : Int) (out : List GWrong) (ho : (out.length : Int) < 1099511627000) (hk : (out.length : Int) < k) :
    ∃ out', F32_s k sp f s t l last out = some (f, s, t, l, last, out') ∧ out'.filter ne3 = out.filter ne3 ∧ (∀ e ∈ out', e ∈ out ∨ e = ⟨sp.page, sp.row, 3⟩) ∧ out'.length ≤ out.length + 1 := by
  unfold F32_s
  rcases t32l1 k sp f s t l last out (by unfold Big; omega) k 0 (by omega) (by omega) (by omega) with h | h
  · rw [h]
    obtain ⟨v, b, h1, h2, h3, h4, h5⟩ := t32l2 k sp out ho k 0 [] false (Nat.zero_le _) (by omega) (Nat.zero_le _) (by simp) (fun e he => (by cases he)) (fun _ => Nat.zero_le _)
    have h1' : F32_s_l2 k sp out k ([] : List GWrong) false 0 = some (v, b) := h1
    simp only [Option.bind_some, Sum.elim_inl]
    rw [h1']
    simp only [Option.bind_some]
    cases b with
    | true => exact ⟨v, rfl, h2, h3, h4⟩
    | false =>
      have := h5 rfl
      simp only [Bool.not_false, cond_true]
      rw [bindA_eq (by simp only [List.length_singleton]; omega)]
      refine ⟨_, rfl, ?_, fun e he => ?_, by simp only [List.length_singleton, List.length_append]; omega⟩
      · rw [List.filter_append, h2]
        have : List.filter ne3 [(⟨sp.page, sp.row, 3⟩ : GWrong)] = [] := rfl
        rw [this, List.append_nil]
      · simp only [List.mem_append, List.mem_singleton] at he
        rcases he with he | he
        · exact h3 e he
        · exact .inr he
  · rw [h]
    exact ⟨out, rfl, rfl, fun e he => .inl he, by omega⟩

/-! ### The text -/
theorem up_mem {α : Type} {kf : α → Int} {w : α} : ∀ {M : List α} {a : α}, a ∈ up kf w M → a = w ∨ a ∈ M
  | [], a, h => .inl (List.mem_singleton.1 h)
  | x :: M, a, h => by
    unfold up at h
    cases hb : kf w == kf x with
    | true =>
      rw [hb, cond_true] at h
      rcases List.mem_cons.1 h with h | h
      · exact .inl h
      · exact .inr (List.mem_cons_of_mem _ h)
    | false =>
      rw [hb, cond_false] at h
      rcases List.mem_cons.1 h with h | h
      · exact .inr (by rw [h]; exact List.mem_cons_self)
      · rcases up_mem h with h | h
        · exact .inl h
        · exact .inr (List.mem_cons_of_mem _ h)
theorem t9l (k : Nat) (t : List GChar) (ht : (t.length : Int) < 1099511627) : ∀ (j i : Nat) (f : List Gspot) (s l : List Int), i ≤ t.length → t.length < i + j → (∀ a ∈ f, 0 ≤ a.row) → l.length ≤ i →
    ∃ f' s' l', F9_l1 k t j i f s l = some (f', s', l') ∧ (∀ a ∈ f', 0 ≤ a.row) ∧ l'.length ≤ t.length
  | 0, i, f, s, l, h1, h2, h3, h4 => by omega
  | j + 1, i, f, s, l, h1, h2, h3, h4 => by
    rw [F9_l1]
    cases hb : decide ((i : Int) < (t.length : Int)) with
    | false => exact ⟨f, s, l, rfl, h3, by omega⟩
    | true =>
      have hi : (i : Int) < t.length := of_decide_eq_true hb
      obtain ⟨y, hy⟩ := at_of (L := t) (i := (i : Int)) (by omega) hi
      rw [cond_true, bindI_eq (by omega) hy]
      have wi : w ((i : Int) + 1) = ((i + 1 : Nat) : Int) := by rw [w_id (by omega) (by omega)]; omega
      obtain ⟨f2, e2, hf2⟩ : ∃ f2, (bif !(lkB Gspot.page y.from_ f) then (some (up Gspot.page (Gspot.mk y.from_ (i : Int)) f)) else (some f)) = some f2 ∧ ∀ a ∈ f2, 0 ≤ a.row := by
        cases !(lkB Gspot.page y.from_ f) with
        | true => exact ⟨_, rfl, fun a ha => (up_mem ha).elim (fun e => by rw [e]; show 0 ≤ (i : Int); omega) (h3 a)⟩
        | false => exact ⟨f, rfl, h3⟩
      obtain ⟨s2, e3⟩ : Tot (bif y.rune == 173 then (some (up idI y.from_ s)) else (some s)) := Tot.bif (fun _ => ⟨_, rfl⟩) (fun _ => ⟨_, rfl⟩)
      obtain ⟨b, e4⟩ := t25 k y
      rw [e2]; simp only [Option.bind_some]
      rw [e3]; simp only [Option.bind_some]
      rw [e4]; simp only [Option.bind_some]
      rw [wi]
      cases b with
      | true => exact t9l k t ht j (i + 1) f2 s2 l (by omega) (by omega) hf2 (by omega)
      | false =>
        simp only [Bool.not_false, cond_true]
        rw [bindA_eq (by simp only [List.length_singleton]; omega)]
        exact t9l k t ht j (i + 1) f2 s2 _ (by omega) (by omega) hf2 (by simp only [List.length_singleton, List.length_append]; omega)

/-- pages no larger than can be -/
structure PagesOK (k : Nat) (ps : List GPage) : Prop where
  n : (ps.length : Int) < 1099511627
  each : ∀ p ∈ ps, PageOK k p
  rows : ((rowsP 0 ps).length : Int) < 109951162

theorem rowsL_eq {k j : Nat} {ps : List GPage} (h : PagesOK k ps) : rowsL k ps j 0 = some (rowsP 0 ps) := by
  unfold rowsL
  have h1 : decide ((ps.length : Int) < 9223372036854775807) = true := decide_eq_true (by have := h.n; omega)
  have h2 : ps.all (fun p => decide ((p.rows.length : Int) < 9223372036854775807)) = true := List.all_eq_true.2 fun p hp => decide_eq_true (by have := (h.each p hp).1; unfold Big at this; omega)
  rw [h1, h2]; rfl

theorem guardS_eq {β : Type} {n : Nat} {x : Option β} (h : n < 4611686018427387904) : guardS n x = x := by
  unfold guardS
  rw [decide_eq_true h]; rfl
theorem small_lt {n : Nat} (h : n < 1099511627) : n < 4611686018427387904 := Nat.lt_trans h (by decide)
theorem e27 (k : Nat) (ps : List GPage) : F27 k ps = some ps := rfl
theorem t9 (k : Nat) (t : List GChar) (ht : (t.length : Int) < 1099511627) (hk : (t.length : Int) < k) : ∃ f s l, TextOK k f t l ∧ ∀ (ps : List GPage), PagesOK k ps → ∀ (last' : Int) (es : List GWrong) (at' : Gspot) (ah' : Option GRow),
    F9_r2 k ps (rowsP 0 ps) f s t l 0 [] ⟨0, 0⟩ none = some (f, s, t, l, last', es, at', ah') → (es.length : Int) < 1099511627000 → (es.length : Int) < k →
    ∃ out', F9 k ps t = some out' ∧ out'.filter ne3 = es.filter ne3 ∧ (∀ e ∈ out', e ∈ es ∨ e = ⟨at'.page, at'.row, 3⟩) ∧ out'.length ≤ es.length + 1 := by
  obtain ⟨f, s, l, h1, h2, h3⟩ := t9l k t ht k 0 [] [] [] (Nat.zero_le _) (by omega) (fun a ha => (by cases ha)) (Nat.zero_le _)
  have hT : TextOK k f t (srt l) := ⟨h2, by unfold Big; omega, hk, by rw [srt_len]; unfold Big; omega, by rw [srt_len]; omega⟩
  refine ⟨f, s, srt l, hT, fun ps hps last' es at' ah' hr he hek => ?_⟩
  have h1' : F9_l1 k t k 0 ([] : List Gspot) ([] : List Int) ([] : List Int) = some (f, s, l) := h1
  obtain ⟨b, hb⟩ := t31 k last' 0 true f s t (srt l) hT
  unfold F9
  rw [h1']
  simp only [Option.bind_some]
  rw [guardS_eq (small_lt (by omega))]
  rw [e27, Option.bind_some, rowsL_eq hps, Option.bind_some]
  rw [hr]
  simp only [Option.bind_some]
  rw [hb]
  simp only [Option.bind_some]
  cases b with
  | false => exact ⟨es, rfl, rfl, fun e he => .inl he, by omega⟩
  | true =>
    obtain ⟨out', q1, q2, q3, q4⟩ := t32 k at' f s t (srt l) last' es he hek
    simp only [cond_true]
    rw [q1]
    exact ⟨out', rfl, q2, q3, q4⟩

/-! ### The law -/
theorem t5l1 (k : Nat) (ps : List GPage) (v m : Int) (hm : Int.tmod v (w ((ps.length : Int) + 1)) = m) (r : List GWrong) (hr : (r.length : Int) < 1099511627000) : ∀ (j i : Nat) (acc : List GWrong), i ≤ r.length → r.length < i + j → acc.length ≤ i →
    F5_l1 k ps v r j acc i = some (acc ++ (r.drop i).filter (fun e => decide (e.page < m) && ne3 e))
  | 0, i, acc, h1, h2, h3 => by omega
  | j + 1, i, acc, h1, h2, h3 => by
    rw [F5_l1]
    cases hb : decide ((i : Int) < (r.length : Int)) with
    | false =>
      have hi : ¬ (i : Int) < r.length := of_decide_eq_false hb
      rw [List.drop_eq_nil_of_le (by omega)]
      simp
    | true =>
      have hi : (i : Int) < r.length := of_decide_eq_true hb
      have hlt : i < r.length := by omega
      have hy : r[(i : Int).toNat]? = some r[i] := by rw [show (i : Int).toNat = i by omega]; exact List.getElem?_eq_getElem hlt
      rw [cond_true, bindI_eq (by omega) hy, hm]
      have wi : w ((i : Int) + 1) = ((i + 1 : Nat) : Int) := by rw [w_id (by omega) (by omega)]; omega
      rw [wi, List.drop_eq_getElem_cons hlt, List.filter_cons]
      generalize r[i] = y
      have e1 : (bif decide (y.page < m) then (some (y.rule != 3)) else (some false)) = some (decide (y.page < m) && ne3 y) := by
        cases decide (y.page < m) <;> rfl
      rw [e1]
      simp only [Option.bind_some]
      cases decide (y.page < m) && ne3 y with
      | false =>
        exact t5l1 k ps v m hm r hr j (i + 1) acc (by omega) (by omega) (by omega)
      | true =>
        simp only [cond_true]
        rw [bindA_eq (by simp only [List.length_singleton]; omega)]
        simp only [Option.bind_some]
        rw [t5l1 k ps v m hm r hr j (i + 1) _ (by omega) (by omega) (by simp only [List.length_singleton, List.length_append]; omega), List.append_assoc]
        rfl
theorem t5l2 (k : Nat) (ps : List GPage) (v m : Int) (hm : Int.tmod v (w ((ps.length : Int) + 1)) = m) (r : List GWrong) (hr : (r.length : Int) < 1099511627000) (hlow : ∀ e ∈ r, e.page < (if 1 > m then 1 else m)) : ∀ (j i : Nat) (acc : List GWrong), i ≤ r.length → r.length < i + j → acc.length ≤ i →
    F5_l2 k ps v r j acc i = some (.inl (acc ++ (r.drop i).filter ne3))
  | 0, i, acc, h1, h2, h3 => by omega
  | j + 1, i, acc, h1, h2, h3 => by
    rw [F5_l2]
    cases hb : decide ((i : Int) < (r.length : Int)) with
    | false =>
      have hi : ¬ (i : Int) < r.length := of_decide_eq_false hb
      rw [List.drop_eq_nil_of_le (by omega)]
      simp
    | true =>
      have hi : (i : Int) < r.length := of_decide_eq_true hb
      have hlt : i < r.length := by omega
      have hy : r[(i : Int).toNat]? = some r[i] := by rw [show (i : Int).toNat = i by omega]; exact List.getElem?_eq_getElem hlt
      rw [cond_true, bindI_eq (by omega) hy, hm]
      have wi : w ((i : Int) + 1) = ((i + 1 : Nat) : Int) := by rw [w_id (by omega) (by omega)]; omega
      rw [wi, List.drop_eq_getElem_cons hlt, List.filter_cons]
      have hl := hlow r[i] (List.getElem_mem hlt)
      generalize r[i] = y at hl
      rw [decide_eq_false (show ¬ y.page ≥ (if 1 > m then 1 else m) by omega)]
      simp only [cond_false]
      cases hq : (y.rule != 3) with
      | false =>
        have : ne3 y = false := hq
        rw [this]
        simp only [cond_false, Option.bind_some, Sum.elim_inl]
        exact t5l2 k ps v m hm r hr hlow j (i + 1) acc (by omega) (by omega) (by omega)
      | true =>
        have : ne3 y = true := hq
        rw [this]
        simp only [cond_true]
        rw [bindA_eq (by simp only [List.length_singleton]; omega)]
        simp only [Option.bind_some, Sum.elim_inl]
        rw [t5l2 k ps v m hm r hr hlow j (i + 1) _ (by omega) (by omega) (by simp only [List.length_singleton, List.length_append]; omega), List.append_assoc]
        rfl
theorem t17l (k : Nat) (r : List GWrong) (hr : (r.length : Int) < 1099511627000) : ∀ (j : Nat) (i : Int), 0 ≤ i → i ≤ r.length → (r.length : Int) < i + j → F17_l1 k r r j i = some (.inl ())
  | 0, i, h0, h1, h2 => by omega
  | j + 1, i, h0, h1, h2 => by
    rw [F17_l1]
    cases hb : decide (i < (r.length : Int)) with
    | false => rfl
    | true =>
      have hi : i < r.length := of_decide_eq_true hb
      obtain ⟨y, hy⟩ := at_of h0 hi
      rw [cond_true, bindI_eq h0 hy, bindI_eq h0 hy, w_id (by omega) (by omega)]
      have : (!(y.page == y.page && (y.row == y.row && (y.rule == y.rule && true)))) = false := by simp
      rw [this]
      exact t17l k r hr j (i + 1) (by omega) (by omega) (by omega)
theorem t17 (k : Nat) (r : List GWrong) (hr : (r.length : Int) < 1099511627000) (hk : (r.length : Int) < k) : F17 k r r = some true := by
  unfold F17
  have : ((r.length : Int) != (r.length : Int)) = false := by simp
  rw [this, cond_false, t17l k r hr k 0 (by omega) (by omega) (by omega)]
  rfl

theorem first_part (k : Nat) (f : List Gspot) (s : List Int) (t : List GChar) (l : List Int) (hT : TextOK k f t l) (ps : List GPage) (hk : 0 < k) (hps : PagesOK k ps) (m : Nat) (hm : m ≤ ps.length) :
    ∃ es1 es2 la1 at1 ah1 la2 at2 ah2, F9_r2 k (ps.take m) (rowsP 0 (ps.take m)) f s t l 0 [] ⟨0, 0⟩ none = some (f, s, t, l, la1, es1, at1, ah1) ∧ F9_r2 k ps (rowsP 0 ps) f s t l 0 [] ⟨0, 0⟩ none = some (f, s, t, l, la2, es1 ++ es2, at2, ah2) ∧
      (∀ e ∈ es1, 0 ≤ e.page ∧ e.page < m) ∧ (∀ e ∈ es2, m ≤ e.page) ∧ (at1.page = 0 ∨ 0 ≤ at1.page ∧ at1.page < m) ∧ es1.length + es2.length ≤ 4 * (rowsP 0 ps).length ∧ (rowsP 0 (ps.take m)).length ≤ (rowsP 0 ps).length := by
  have hsplit : rowsP 0 ps = rowsP 0 (ps.take m) ++ rowsP (0 + ((ps.take m).length : Int)) (ps.drop m) := by rw [← rowsP_app, List.take_append_drop]
  have hlen : (ps.take m).length = m := by rw [List.length_take]; omega
  rw [hlen, Int.zero_add] at hsplit
  have hok : ∀ x ∈ rowsP 0 ps, SpotOK k ps x := fun x hx => spots_ok hk hps.each hx
  have hrows := hps.rows
  have hl : (rowsP 0 ps).length = (rowsP 0 (ps.take m)).length + (rowsP (m : Int) (ps.drop m)).length := by rw [← List.length_append, ← hsplit]
  obtain ⟨la1, es1, at1, ah1, p1, p2, p3, p4⟩ := r2 k f s t l hT ps hps.each (rowsP 0 (ps.take m)) 0 ⟨0, 0⟩ none (fun x hx => hok x (by rw [hsplit]; exact List.mem_append_left _ hx))
  obtain ⟨la2, es2, at2, ah2, q1, q2, q3, q4⟩ := r2 k f s t l hT ps hps.each (rowsP (m : Int) (ps.drop m)) la1 at1 ah1 (fun x hx => hok x (by rw [hsplit]; exact List.mem_append_right _ hx))
  refine ⟨es1, es2, la1, at1, ah1, la2, at2, ah2, ?_, ?_, fun e he => ?_, fun e he => ?_, ?_, by omega, by omega⟩
  · have := p4 (ps.take m) [] (by simp only [List.length_nil]; omega) (fun x hx => ?_) []
    · rw [List.append_nil, List.nil_append] at this
      rw [this]; rfl
    · obtain ⟨h1, h2, _⟩ := rowsP_mem (ps.take m) 0 x hx
      rw [List.getElem?_take, if_pos (by omega)]
  · have := p4 ps [] (by simp only [List.length_nil]; omega) (fun x hx => rfl) (rowsP (m : Int) (ps.drop m))
    rw [hsplit, this, List.nil_append]
    have h2 := q4 ps es1 (by omega) (fun x hx => rfl) []
    rw [List.append_nil] at h2
    rw [h2]; rfl
  · obtain ⟨x, hx, h1, h2⟩ := p1 e he
    obtain ⟨h3, h4, _⟩ := rowsP_mem (ps.take m) 0 x hx
    rw [h1]; omega
  · obtain ⟨x, hx, h1, h2⟩ := q1 e he
    obtain ⟨h3, h4, _⟩ := rowsP_mem (ps.drop m) m x hx
    rw [h1]; omega
  · rcases p3 with h | ⟨x, hx, h⟩
    · exact .inl (by rw [h])
    · obtain ⟨h3, h4, _⟩ := rowsP_mem (ps.take m) 0 x hx
      exact .inr (by rw [h]; omega)

theorem take_ok {k : Nat} {ps : List GPage} (h : PagesOK k ps) (m : Nat) (hl : (rowsP 0 (ps.take m)).length ≤ (rowsP 0 ps).length) : PagesOK k (ps.take m) :=
  ⟨by have := h.n; rw [List.length_take]; omega, fun p hp => h.each p (List.mem_of_mem_take hp), by have := h.rows; omega⟩

/-- **the law of the first pages** -/
theorem t5 (k : Nat) (ps : List GPage) (t : List GChar) (a : Int) (ha : -9223372036854775808 ≤ a) (ha2 : a < 9223372036854775808) (hps : PagesOK k ps) (ht : (t.length : Int) < 1099511627) (hk : (t.length : Int) < k) (hk2 : 1099511627 < k) : F5 k ps t a = some true := by
  have hn := hps.n
  have hrw := hps.rows
  obtain ⟨v, hv, hv0⟩ : ∃ v, (bif decide (a < 0) then (some (w (0 - (w (a + 1))))) else (some a)) = some v ∧ 0 ≤ v := by
    cases hb : decide (a < 0) with
    | false => exact ⟨a, rfl, by have := of_decide_eq_false hb; omega⟩
    | true =>
      have := of_decide_eq_true hb
      refine ⟨_, rfl, ?_⟩
      rw [w_id (n := a + 1) (by omega) (by omega), w_id (by omega) (by omega)]; omega
  have hw : w ((ps.length : Int) + 1) = (ps.length : Int) + 1 := w_id (by omega) (by omega)
  obtain ⟨m, hm⟩ : ∃ m : Nat, Int.tmod v ((ps.length : Int) + 1) = (m : Int) := ⟨(Int.tmod v ((ps.length : Int) + 1)).toNat, by have := Int.tmod_nonneg ((ps.length : Int) + 1) hv0; omega⟩
  have hml : m ≤ ps.length := by
    have := Int.tmod_lt_of_pos v (b := (ps.length : Int) + 1) (by omega)
    omega
  have hmw : Int.tmod v (w ((ps.length : Int) + 1)) = (m : Int) := by rw [hw]; exact hm
  obtain ⟨f, s, l, hT, h9⟩ := t9 k t ht hk
  obtain ⟨es1, es2, la1, at1, ah1, la2, at2, ah2, q1, q2, q3, q4, q5, q6, q7⟩ := first_part k f s t l hT ps (by omega) hps m hml
  obtain ⟨o2, a1, a2, a3, a4⟩ := h9 ps hps la2 (es1 ++ es2) at2 ah2 q2 (by rw [List.length_append]; omega) (by rw [List.length_append]; omega)
  obtain ⟨o1, b1, b2, b3, b4⟩ := h9 (ps.take m) (take_ok hps m q7) la1 es1 at1 ah1 q1 (by omega) (by omega)
  rw [List.length_append] at a4
  have hsame : o2.filter (fun e => decide (e.page < (m : Int)) && ne3 e) = o1.filter ne3 := by
    rw [b2, ← List.filter_filter, a2, List.filter_filter, List.filter_append]
    have e1 : es1.filter (fun e => decide (e.page < (m : Int)) && ne3 e) = es1.filter ne3 := List.filter_congr fun e he => by rw [decide_eq_true (q3 e he).2, Bool.true_and]
    have e2 : es2.filter (fun e => decide (e.page < (m : Int)) && ne3 e) = [] := List.filter_eq_nil_iff.2 fun e he => by
      rw [decide_eq_false (by have := q4 e he; omega), Bool.false_and]; simp
    rw [e1, e2, List.append_nil]
  have hlow : ∀ e ∈ o1, e.page < (if 1 > (m : Int) then 1 else (m : Int)) := fun e he => by
    rcases b3 e he with h | h
    · have := q3 e h; split <;> omega
    · rw [h]
      show at1.page < _
      split <;> omega
  have c1 := t5l1 k ps v m hmw o2 (by omega) k 0 [] (Nat.zero_le _) (by omega) (Nat.zero_le _)
  have c2 := t5l2 k ps v m hmw o1 (by omega) hlow k 0 [] (Nat.zero_le _) (by omega) (Nat.zero_le _)
  rw [List.nil_append, List.drop_zero, hsame, show ((0 : Nat) : Int) = 0 from rfl] at c1
  rw [List.nil_append, List.drop_zero, show ((0 : Nat) : Int) = 0 from rfl] at c2
  have c3 := t17 k (o1.filter ne3) (by have := List.length_filter_le ne3 o1; omega) (by have := List.length_filter_le ne3 o1; omega)
  unfold F5
  rw [hv, Option.bind_some]
  unfold bindD bindS
  rw [if_neg (by rw [hw]; omega), a1, Option.bind_some, c1, Option.bind_some, hmw, if_pos ⟨Int.le_refl 0, by omega, by omega⟩]
  have ht2 : List.drop (Int.toNat 0) (List.take (Int.toNat (m : Int)) ps) = ps.take m := by
    rw [show Int.toNat 0 = 0 from rfl, List.drop_zero]; congr 1
  rw [ht2]
  dsimp only
  rw [b1, Option.bind_some, c2, Option.bind_some]
  show (F17 k (o1.filter ne3) (o1.filter ne3)).bind _ = _
  rw [c3]; rfl
end
end Go.Eng.Lift
