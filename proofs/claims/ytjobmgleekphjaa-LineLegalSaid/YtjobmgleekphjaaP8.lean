/-
  LineLegal, the plain law.
-/
import Derived.Test.YtjobmgleekphjaaX8
set_option linter.unusedVariables false
set_option linter.unusedSimpArgs false
set_option maxRecDepth 10000
namespace Go.Eng.Lift
open Go.Proofs
noncomputable section
theorem w_id {n : Int} (h1 : -9223372036854775808 ≤ n) (h2 : n < 9223372036854775808) : w n = n := by
  unfold w
  first | (rw [wrap64]; omega) | (simp [IntKind.wrap, IntKind.signed, IntKind.bits]; omega)
theorem w_ge (n : Int) : -9223372036854775808 ≤ w n := by
  unfold w
  first | (rw [wrap64]; omega) | (simp [IntKind.wrap, IntKind.signed, IntKind.bits]; omega)
theorem w_lt (n : Int) : w n < 9223372036854775808 := by
  unfold w
  first | (rw [wrap64]; omega) | (simp [IntKind.wrap, IntKind.signed, IntKind.bits]; omega)

theorem bindI_eq {α β : Type} {L : List α} {i : Int} {f : α → Option β} {y : α} (h : 0 ≤ i) (hy : L[i.toNat]? = some y) : bindI L i f = f y := by
  unfold bindI
  rw [if_pos h, hy]; rfl
theorem at_of {α : Type} {L : List α} {i : Int} (h : 0 ≤ i) (h2 : i < L.length) : ∃ y, L[i.toNat]? = some y := ⟨_, List.getElem?_eq_getElem (by omega)⟩

theorem t92 (k : Nat) (a b c : Int) : F92 k a b c = some (decide (b ≤ a) && decide (a ≤ c)) := by
  unfold F92
  cases decide (b ≤ a) <;> rfl

theorem t104 (k : Nat) (x : GItem) : ∃ r, F104 k x = some r ∧ (r = true → 0 ≤ x.width ∧ x.width ≤ 1099511627776) := by
  unfold F104
  simp only [t92, Option.bind_some]
  cases h1 : (decide (1 ≤ x.size) && decide (x.size ≤ 67108864)) with
  | false => exact ⟨false, rfl, fun h => by cases h⟩
  | true =>
    cases h2 : (decide (0 ≤ x.width) && decide (x.width ≤ 1099511627776)) with
    | false => exact ⟨false, rfl, fun h => by cases h⟩
    | true =>
      have h3 : 0 ≤ x.width ∧ x.width ≤ 1099511627776 := by simpa using h2
      cases h4 : (decide (0 ≤ x.height) && decide (x.height ≤ 1099511627776)) with
      | false => exact ⟨false, rfl, fun h => by cases h⟩
      | true => exact ⟨_, rfl, fun _ => h3⟩

theorem t110 (k : Nat) (a : Int) : ∃ r, F110 k a = some r := by
  unfold F110
  cases decide (a < 0) with
  | true => exact ⟨_, rfl⟩
  | false =>
  cases decide (a ≤ 127) with
  | true => exact ⟨_, rfl⟩
  | false =>
  cases decide (a ≤ 2047) with
  | true => exact ⟨_, rfl⟩
  | false =>
  cases decide (55296 ≤ a) <;> cases decide (a ≤ 57343) <;> cases decide (a ≤ 65535) <;> cases decide (a ≤ 1114111) <;> exact ⟨_, rfl⟩
theorem t105 (k : Nat) (a : Int) : ∃ r, F105 k a = some r := by
  unfold F105
  obtain ⟨r, hr⟩ := t110 k (w_i32 a)
  rw [hr]
  cases decide (a < 0) <;> simp only [cond_true, cond_false, Option.bind_some]
  · cases decide (a > 1114111) <;> simp only [cond_true, cond_false, Option.bind_some]
    · cases decide (a ≥ 55296) <;> simp only [cond_true, cond_false, Option.bind_some]
      · exact ⟨_, rfl⟩
      · cases decide (a ≤ 57343) <;> exact ⟨_, rfl⟩
    · exact ⟨_, rfl⟩
  · exact ⟨_, rfl⟩


/-- what the check tells of an item -/
structure Good (a b c : GItem) : Prop where
  box : a.kind = 1 → 0 ≤ a.width ∧ a.width ≤ 1099511627776
  kern : a.kind = 2 → b.kind = 1 ∧ c.kind = 1 ∧ w (0 - (if c.width < b.width then c.width else b.width)) ≤ a.width ∧ a.width ≤ 1099511627776
  glue : a.kind = 3 → (0 ≤ a.width ∧ a.width ≤ 67108864) ∧ (0 ≤ a.stretch ∧ a.stretch ≤ 67108864) ∧ 0 ≤ a.shrink ∧ a.shrink ≤ a.width
  pen : a.kind = 4 → 0 ≤ a.width ∧ a.width ≤ 1099511627776
  val : a.kind = 4 → -10000 ≤ a.value

theorem fin91 {b : Bool} {x : Bool} : ∃ r, (Option.bind (α := Bool) (bif b then some x else some false) fun v => some v) = some r ∧ (r = true → b = true) := by
  cases b
  · exact ⟨false, rfl, fun h => by cases h⟩
  · exact ⟨x, rfl, fun _ => rfl⟩

theorem t91 (k : Nat) (a b c : GItem) : ∃ r, F91 k a b c = some r ∧ (r = true → Good a b c) := by
  obtain ⟨q, hq, hq'⟩ := t104 k a
  obtain ⟨u, hu⟩ := t105 k a.rune
  unfold F91
  simp only [t92, hq, hu, Option.bind_some]
  cases h1 : (a.kind == 1) with
  | true =>
    have e : a.kind = 1 := eq_of_beq h1
    cases q with
    | false => exact ⟨false, rfl, fun h => by cases h⟩
    | true =>
      have := hq' rfl
      have g : Good a b c := ⟨fun _ => this, fun h => by omega, fun h => by omega, fun h => by omega, fun h => by omega⟩
      cases decide (u > 0) with
      | false => exact ⟨false, rfl, fun h => by cases h⟩
      | true => exact ⟨_, rfl, fun _ => g⟩
  | false =>
  cases h2 : (a.kind == 2) with
  | true =>
    have e : a.kind = 2 := eq_of_beq h2
    cases h3 : (b.kind == 1) with
    | false => exact ⟨false, rfl, fun h => by cases h⟩
    | true =>
    cases h4 : (c.kind == 1) with
    | false => exact ⟨false, rfl, fun h => by cases h⟩
    | true =>
    cases h5 : (a.width != 0) with
    | false => exact ⟨false, rfl, fun h => by cases h⟩
    | true =>
    cases h6 : (decide (w (0 - (if c.width < b.width then c.width else b.width)) ≤ a.width) && decide (a.width ≤ 1099511627776)) with
    | false => exact ⟨false, rfl, fun h => by cases h⟩
    | true =>
      have h7 : w (0 - (if c.width < b.width then c.width else b.width)) ≤ a.width ∧ a.width ≤ 1099511627776 := by simpa using h6
      have g : Good a b c := ⟨fun h => by omega, fun _ => ⟨eq_of_beq h3, eq_of_beq h4, h7⟩, fun h => by omega, fun h => by omega, fun h => by omega⟩
      exact ⟨_, rfl, fun _ => g⟩
  | false =>
  cases h3 : (a.kind == 3) with
  | true =>
    have e : a.kind = 3 := eq_of_beq h3
    cases h4 : (decide (1 ≤ a.size) && decide (a.size ≤ 67108864)) with
    | false => exact ⟨false, rfl, fun h => by cases h⟩
    | true =>
    cases h5 : (decide (0 ≤ a.width) && decide (a.width ≤ 67108864)) with
    | false => exact ⟨false, rfl, fun h => by cases h⟩
    | true =>
    cases h6 : (decide (0 ≤ a.stretch) && decide (a.stretch ≤ 67108864)) with
    | false => exact ⟨false, rfl, fun h => by cases h⟩
    | true =>
    cases h7 : (decide (0 ≤ a.shrink) && decide (a.shrink ≤ a.width)) with
    | false => exact ⟨false, rfl, fun h => by cases h⟩
    | true =>
      have h5' : 0 ≤ a.width ∧ a.width ≤ 67108864 := by simpa using h5
      have h6' : 0 ≤ a.stretch ∧ a.stretch ≤ 67108864 := by simpa using h6
      have h7' : 0 ≤ a.shrink ∧ a.shrink ≤ a.width := by simpa using h7
      have g : Good a b c := ⟨fun h => by omega, fun h => by omega, fun _ => ⟨h5', h6', h7'⟩, fun h => by omega, fun h => by omega⟩
      exact ⟨_, rfl, fun _ => g⟩
  | false =>
  cases h4 : (a.kind == 4) with
  | true =>
    have e : a.kind = 4 := eq_of_beq h4
    cases hv : (decide (-10000 ≤ a.value) && decide (a.value ≤ 10000)) with
    | false => cases hf : a.flag <;> exact ⟨false, rfl, fun h => by cases h⟩
    | true =>
    have hval : -10000 ≤ a.value := by have : -10000 ≤ a.value ∧ a.value ≤ 10000 := by simpa using hv
                                       exact this.1
    cases hf : a.flag with
    | false =>
      refine ⟨_, rfl, fun h => ?_⟩
      simp only [Bool.and_eq_true, beq_iff_eq] at h
      have hw : a.width = 0 := h.2.2.2.2.1
      exact ⟨fun h => by omega, fun h => by omega, fun h => by omega, fun _ => by omega, fun _ => hval⟩
    | true =>
    cases q with
    | false => exact ⟨false, rfl, fun h => by cases h⟩
    | true =>
      have := hq' rfl
      have g : Good a b c := ⟨fun h => by omega, fun h => by omega, fun h => by omega, fun _ => this, fun _ => hval⟩
      cases hr : (a.rune == 45) with
      | false => exact ⟨false, rfl, fun h => by cases h⟩
      | true =>
        cases decide (a.value > -10000) with
        | false => exact ⟨false, rfl, fun h => by cases h⟩
        | true => exact ⟨_, rfl, fun _ => g⟩
  | false => exact ⟨false, rfl, fun h => by cases h⟩

def prevOf (L : List GItem) (i : Nat) : GItem := if 0 < i then (L[i - 1]?).getD (GItem.mk 0 ByteArray.empty 0 0 0 0 0 0 0 0 false 0 0) else GItem.mk 0 ByteArray.empty 0 0 0 0 0 0 0 0 false 0 0
def nextOf (L : List GItem) (i : Nat) : GItem := (L[i + 1]?).getD (GItem.mk 0 ByteArray.empty 0 0 0 0 0 0 0 0 false 0 0)

theorem t64_l1 (k : Nat) (L : List GItem) (hl : L.length ≤ 4096) : ∀ (j : Nat) (v : Int) (i : Nat), i ≤ L.length → L.length < j + i →
    ∃ r, F64_l1 k L j v i = some r ∧ (r = .inl () → ∀ t y, i ≤ t → L[t]? = some y → Good y (prevOf L t) (nextOf L t))
  | 0, v, i, h1, h2 => by omega
  | j + 1, v, i, h1, h2 => by
    unfold F64_l1
    cases hc : decide ((i : Int) < (L.length : Int)) with
    | false =>
      have : ¬ (i : Int) < L.length := of_decide_eq_false hc
      refine ⟨.inl (), rfl, fun _ t y ht hy => ?_⟩
      have := lt_of_get hy
      omega
    | true =>
      have hi : (i : Int) < L.length := of_decide_eq_true hc
      obtain ⟨y, hy⟩ := at_of (L := L) (i := (i : Int)) (by omega) hi
      have hp : ∀ {β : Type} (f : Int × ByteArray × Int × Int × Int × Int × Int × Int × Int × Int × Bool × Int × Int → Option β), (Option.bind (bif decide ((i : Int) > 0) then (bindI L (w ((i : Int) - 1)) fun y22 => some (y22.kind, y22.font, y22.size, y22.rune, y22.width, y22.height, y22.depth, y22.stretch, y22.shrink, y22.value, y22.flag, y22.from_, y22.to_)) else (some (0, ByteArray.empty, 0, 0, 0, 0, 0, 0, 0, 0, false, 0, 0))) f) = 
          f ((prevOf L i).kind, (prevOf L i).font, (prevOf L i).size, (prevOf L i).rune, (prevOf L i).width, (prevOf L i).height, (prevOf L i).depth, (prevOf L i).stretch, (prevOf L i).shrink, (prevOf L i).value, (prevOf L i).flag, (prevOf L i).from_, (prevOf L i).to_) := by
        intro β f
        by_cases h0 : 0 < i
        · rw [decide_eq_true (show (i : Int) > 0 by omega), w_id (by omega) (by omega)]
          obtain ⟨z, hz⟩ := at_of (L := L) (i := (i : Int) - 1) (by omega) (by omega)
          rw [cond_true, bindI_eq (by omega) hz]
          have : (i : Int).toNat - 1 = i - 1 := by omega
          unfold prevOf
          rw [if_pos h0]
          rw [show ((i : Int) - 1).toNat = i - 1 by omega] at hz
          rw [hz]; rfl
        · rw [decide_eq_false (show ¬ (i : Int) > 0 by omega), cond_false]
          unfold prevOf
          rw [if_neg h0]; rfl
      have hn : ∀ {β : Type} (f : Int × ByteArray × Int × Int × Int × Int × Int × Int × Int × Int × Bool × Int × Int → Option β), (Option.bind (bif decide ((w ((i : Int) + 1)) < (L.length : Int)) then (bindI L (w ((i : Int) + 1)) fun y22 => some (y22.kind, y22.font, y22.size, y22.rune, y22.width, y22.height, y22.depth, y22.stretch, y22.shrink, y22.value, y22.flag, y22.from_, y22.to_)) else (some (0, ByteArray.empty, 0, 0, 0, 0, 0, 0, 0, 0, false, 0, 0))) f) = 
          f ((nextOf L i).kind, (nextOf L i).font, (nextOf L i).size, (nextOf L i).rune, (nextOf L i).width, (nextOf L i).height, (nextOf L i).depth, (nextOf L i).stretch, (nextOf L i).shrink, (nextOf L i).value, (nextOf L i).flag, (nextOf L i).from_, (nextOf L i).to_) := by
        intro β f
        rw [w_id (n := (i : Int) + 1) (by omega) (by omega)]
        by_cases h0 : i + 1 < L.length
        · rw [decide_eq_true (show (i : Int) + 1 < L.length by omega)]
          obtain ⟨z, hz⟩ := at_of (L := L) (i := (i : Int) + 1) (by omega) (by omega)
          rw [cond_true, bindI_eq (by omega) hz]
          unfold nextOf
          rw [show ((i : Int) + 1).toNat = i + 1 by omega] at hz
          rw [hz]; rfl
        · rw [decide_eq_false (show ¬ (i : Int) + 1 < L.length by omega), cond_false]
          unfold nextOf
          rw [List.getElem?_eq_none (by omega)]; rfl
      rw [cond_true, bindI_eq (by omega) hy]
      rw [show (i : Int).toNat = i by omega] at hy
      simp only [hp, hn]
      obtain ⟨r, hr, hg⟩ := t91 k y (prevOf L i) (nextOf L i)
      rw [hr]
      simp only [Option.bind_some]
      cases r with
      | false => exact ⟨.inr 1, rfl, fun h => by cases h⟩
      | true =>
        have g := hg rfl
        have step : ∀ v', ∃ r, F64_l1 k L j v' (w ((i : Int) + 1)) = some r ∧ (r = .inl () → ∀ t y, i ≤ t → L[t]? = some y → Good y (prevOf L t) (nextOf L t)) := by
          intro v'
          rw [w_id (n := (i : Int) + 1) (by omega) (by omega)]
          obtain ⟨r, h3, h4⟩ := t64_l1 k L hl j v' (i + 1) (by omega) (by omega)
          refine ⟨r, h3, fun e t z ht hz => ?_⟩
          by_cases hti : t = i
          · subst hti
            rw [hy] at hz; cases hz; exact g
          · exact h4 e t z (by omega) hz
        cases (y.kind == 2) with
        | true => exact step v
        | false =>
          simp only [t92]
          cases decide (y.from_ < v) with
          | true => exact ⟨.inr 1, rfl, fun h => by cases h⟩
          | false =>
            cases (decide (y.from_ ≤ y.to_) && decide (y.to_ ≤ 65536)) with
            | false => exact ⟨.inr 1, rfl, fun h => by cases h⟩
            | true => exact step y.to_

theorem t64_no (k : Nat) (L : List GItem) : ∀ (j : Nat) (v i : Int), F64_l1 k L j v i ≠ some (.inr 0)
  | 0, v, i => by unfold F64_l1; intro h; cases h
  | j + 1, v, i => by
    have ih := t64_no k L j
    unfold F64_l1
    intro h
    cases hc : decide (i < (L.length : Int)) with
    | false => rw [hc] at h; cases h
    | true =>
      rw [hc, cond_true] at h
      obtain ⟨x, hx, h⟩ := bind_some h
      cases x with
      | inl v' => exact ih _ _ h
      | inr q =>
        have hq : q = .inr 0 := by simpa using h
        subst hq
        obtain ⟨y, _, _, hx⟩ := bindI_some hx
        obtain ⟨p, _, hx⟩ := bind_some hx
        obtain ⟨n, _, hx⟩ := bind_some hx
        obtain ⟨p1, p2, p3, p4, p5, p6, p7, p8, p9, p10, p11, p12, p13⟩ := p
        obtain ⟨n1, n2, n3, n4, n5, n6, n7, n8, n9, n10, n11, n12, n13⟩ := n
        obtain ⟨r, _, hx⟩ := bind_some hx
        cases r with
        | false => cases hx
        | true =>
          simp only [Bool.not_true, cond_false] at hx
          cases hk : (y.kind == 2) with
          | true => rw [hk] at hx; cases hx
          | false =>
            rw [hk, cond_false] at hx
            obtain ⟨b, _, hx⟩ := bind_some hx
            cases b <;> cases hx

theorem t64 (k : Nat) (L : List GItem) (hk : L.length < k) : ∃ r, F64 k L = some r ∧ (r = 0 → L.length ≤ 4096 ∧ ∀ t y, L[t]? = some y → Good y (prevOf L t) (nextOf L t)) := by
  unfold F64
  cases hc : decide ((L.length : Int) > 4096) with
  | true => exact ⟨130, rfl, fun h => by omega⟩
  | false =>
    have hl : ¬ (L.length : Int) > 4096 := of_decide_eq_false hc
    obtain ⟨r, h1, h2⟩ := t64_l1 k L (by omega) k 0 0 (by omega) (by omega)
    rw [cond_false]
    have h1' : F64_l1 k L k 0 0 = some r := h1
    rw [h1', Option.bind_some]
    cases r with
    | inr n =>
      refine ⟨n, rfl, fun e => ?_⟩
      subst e
      exact (t64_no k L k 0 0 h1').elim
    | inl u =>
      have g := h2 rfl
      have good : L.length ≤ 4096 ∧ ∀ t y, L[t]? = some y → Good y (prevOf L t) (nextOf L t) := ⟨by omega, fun t y hy => g t y (by omega) hy⟩
      simp only [Sum.elim_inl]
      by_cases h0 : 0 < L.length
      · obtain ⟨y, hy⟩ := at_of (L := L) (i := (L.length : Int) - 1) (by omega) (by omega)
        rw [decide_eq_true (show (L.length : Int) > 0 by omega), cond_true, w_id (n := (L.length : Int) - 1) (by omega) (by omega), bindI_eq (by omega) hy, bindI_eq (by omega) hy]
        cases (y.kind != 4) with
        | true => exact ⟨1, rfl, fun h => by cases h⟩
        | false =>
          cases (y.value != (-10000)) with
          | true => exact ⟨1, rfl, fun h => by cases h⟩
          | false => exact ⟨0, rfl, fun _ => good⟩
      · rw [decide_eq_false (show ¬ (L.length : Int) > 0 by omega)]
        exact ⟨0, rfl, fun _ => good⟩

theorem t68 (k : Nat) (L : List GItem) (i : Int) (h0 : 0 ≤ i) (h1 : i < L.length) (hl : L.length ≤ 4096) : ∃ r, F68 k L i = some r := by
  obtain ⟨y, hy⟩ := at_of h0 h1
  unfold F68
  rw [bindI_eq h0 hy]
  cases (y.kind == 3) with
  | true =>
    by_cases h2 : 0 < i
    · obtain ⟨z, hz⟩ := at_of (L := L) (i := i - 1) (by omega) (by omega)
      rw [decide_eq_true (show i > 0 by omega), w_id (n := i - 1) (by omega) (by omega), bindI_eq (by omega) hz]
      exact ⟨_, rfl⟩
    · rw [decide_eq_false (show ¬ i > 0 by omega)]
      exact ⟨_, rfl⟩
  | false =>
    cases (y.kind == 4) with
    | true => rw [bindI_eq h0 hy]; exact ⟨_, rfl⟩
    | false => exact ⟨_, rfl⟩

structure Fine (y : GItem) : Prop where
  width : y.kind = 1 ∨ y.kind = 2 ∨ y.kind = 3 → -1099511627776 ≤ y.width ∧ y.width ≤ 1099511627776
  glue : y.kind = 3 → (0 ≤ y.stretch ∧ y.stretch ≤ 67108864) ∧ 0 ≤ y.shrink ∧ y.shrink ≤ 67108864
  pen : y.kind = 4 → 0 ≤ y.width ∧ y.width ≤ 1099511627776
  val : y.kind = 4 → -10000 ≤ y.value

theorem fine_of {L : List GItem} (h : ∀ t y, L[t]? = some y → Good y (prevOf L t) (nextOf L t)) {t : Nat} {y : GItem} (hy : L[t]? = some y) : Fine y := by
  have g := h t y hy
  refine ⟨fun hk => ?_, fun hk => ?_, g.pen, g.val⟩
  · rcases hk with hk | hk | hk
    · have := g.box hk; omega
    · obtain ⟨k1, k2, k3, k4⟩ := g.kern hk
      have hp : 0 ≤ (prevOf L t).width ∧ (prevOf L t).width ≤ 1099511627776 := by
        unfold prevOf at k1 ⊢
        by_cases h0 : 0 < t
        · rw [if_pos h0] at k1 ⊢
          cases hz : L[t - 1]? with
          | none => rw [hz] at k1; cases k1
          | some z =>
            rw [hz] at k1
            exact (h _ z hz).box k1
        · rw [if_neg h0] at k1; cases k1
      have hn : 0 ≤ (nextOf L t).width ∧ (nextOf L t).width ≤ 1099511627776 := by
        unfold nextOf at k2 ⊢
        cases hz : L[t + 1]? with
        | none => rw [hz] at k2; cases k2
        | some z =>
          rw [hz] at k2
          exact (h _ z hz).box k2
      split at k3
      · rw [w_id (by omega) (by omega)] at k3; omega
      · rw [w_id (by omega) (by omega)] at k3; omega
    · have := g.glue hk; omega
  · have := g.glue hk; omega

theorem t60 (k : Nat) (a b : Int) (ha : 0 ≤ a) (hb : 0 ≤ b) : ∃ r, F60 k a b = some r ∧ a ≤ r ∨ (∃ r, F60 k a b = some r ∧ 2147483647 < r) := by
  unfold F60
  by_cases h1 : a > 2147483647
  · rw [decide_eq_true h1]
    exact ⟨2147483648, .inr ⟨_, rfl, by decide⟩⟩
  · rw [decide_eq_false h1, w_id (n := 2147483647 - a) (by omega) (by omega)]
    by_cases h2 : b > 2147483647 - a
    · rw [decide_eq_true h2]
      exact ⟨2147483648, .inr ⟨_, rfl, by decide⟩⟩
    · rw [decide_eq_false h2]
      refine ⟨a + b, .inl ⟨?_, by omega⟩⟩
      rw [w_id (n := a + b) (by omega) (by omega)]
      rfl

theorem t27_l1 (k : Nat) (L : List GItem) (hl : (L.length : Int) < 9223372036854775808) : ∀ (j i : Nat) (v : Int), 0 ≤ v → i ≤ L.length → L.length < j + i → ∃ r, F27_l1 k L j v i = some r ∧ (r ≤ 2147483647 → v ≤ r)
  | 0, i, v, h0, h1, h2 => by omega
  | j + 1, i, v, h0, h1, h2 => by
    unfold F27_l1
    by_cases hi : (i : Int) < L.length
    · rw [decide_eq_true hi]
      by_cases hv : v ≤ 2147483647
      · rw [decide_eq_true hv]
        obtain ⟨y, hy⟩ := at_of (L := L) (i := (i : Int)) (by omega) hi
        simp only [cond_true, Option.bind_some]
        rw [bindI_eq (by omega) hy, w_id (n := (i : Int) + 1) (by omega) (by omega)]
        obtain ⟨_, h | h⟩ := t60 k v (y.font.size : Int) h0 (by omega)
        · obtain ⟨h3, h4⟩ := h
          rw [h3, Option.bind_some]
          obtain ⟨r, h5, h6⟩ := t27_l1 k L hl j (i + 1) _ (Int.le_trans h0 h4) (by omega) (by omega)
          exact ⟨r, h5, fun h => Int.le_trans h4 (h6 h)⟩
        · obtain ⟨u, h3, h4⟩ := h
          rw [h3, Option.bind_some]
          obtain ⟨r, h5, h6⟩ := t27_l1 k L hl j (i + 1) u (by omega) (by omega) (by omega)
          exact ⟨r, h5, fun h => by have := h6 h; omega⟩
      · rw [decide_eq_false hv]
        exact ⟨v, rfl, fun _ => Int.le_refl _⟩
    · rw [decide_eq_false hi]
      exact ⟨v, rfl, fun _ => Int.le_refl _⟩

theorem t27 (k : Nat) (L : List GItem) (hl : (L.length : Int) < 9223372036854775808) (hk : L.length < k) : ∃ r, F27 k L = some r ∧ (r = false → L.length ≤ 2147483647) := by
  unfold F27
  obtain ⟨r, h1, h2⟩ := t27_l1 k L hl k 0 L.length (by omega) (by omega) (by omega)
  have h1' : F27_l1 k L k (L.length : Int) 0 = some r := h1
  rw [h1', Option.bind_some]
  refine ⟨_, rfl, fun h => ?_⟩
  have h3 : ¬ r > 2147483647 := of_decide_eq_false h
  have := h2 (by omega)
  omega


theorem bif_id (b : Bool) : (bif b then some true else some false) = some b := by cases b <;> rfl

theorem x104 (k : Nat) (x : GItem) : F104 k x = some ((decide (1 ≤ x.size) && decide (x.size ≤ 67108864)) && ((decide (0 ≤ x.width) && decide (x.width ≤ 1099511627776)) && ((decide (0 ≤ x.height) && decide (x.height ≤ 1099511627776)) && (decide (0 ≤ x.depth) && decide (x.depth ≤ 1099511627776))))) := by
  unfold F104
  simp only [t92, Option.bind_some]
  cases (decide (1 ≤ x.size) && decide (x.size ≤ 67108864)) <;> cases (decide (0 ≤ x.width) && decide (x.width ≤ 1099511627776)) <;> cases (decide (0 ≤ x.height) && decide (x.height ≤ 1099511627776)) <;> cases (decide (0 ≤ x.depth) && decide (x.depth ≤ 1099511627776)) <;> rfl

theorem x99 (k : Nat) (a : Int) : F99 k a = some (decide (1 ≤ a) && decide (a ≤ 67108864)) := by
  unfold F99
  have e : decide (a ≥ 1) = decide (1 ≤ a) := rfl
  rw [e]
  cases decide (1 ≤ a) <;> rfl
theorem x100 (k : Nat) (a : Int) : F100 k a = some (decide (0 ≤ a) && decide (a ≤ 1099511627776)) := by
  unfold F100
  have e : decide (a ≥ 0) = decide (0 ≤ a) := rfl
  rw [e]
  cases decide (0 ≤ a) <;> rfl

theorem wi32 {a : Int} (h : 0 ≤ a) (h' : a ≤ 1114111) : w_i32 a = a := by
  unfold w_i32
  rw [IntKind.wrap_i32]; omega

/-- a character's bytes: there are some, or none -/
theorem x105 (k : Nat) (a : Int) : ∃ u v, F105 k a = some u ∧ F98 k a = some v ∧ decide (u > 0) = decide (v > 0) := by
  unfold F105 F98
  by_cases h1 : a < 0
  · rw [decide_eq_true h1]; exact ⟨0, 0, rfl, rfl, rfl⟩
  rw [decide_eq_false h1]
  by_cases h2 : a > 1114111
  · rw [decide_eq_true h2]; exact ⟨0, 0, rfl, rfl, rfl⟩
  rw [decide_eq_false h2]
  have bytes : (¬ (a ≥ 55296 ∧ a ≤ 57343)) → ∃ u v : Int, (F110 k (w_i32 a)).bind (fun r14 => some r14) = some u ∧ (bif decide (a < 128) then (some (1 : Int)) else (bif decide (a < 2048) then (some 2) else (bif decide (a < 65536) then (some 3) else (some 4)))) = some v ∧ decide (u > 0) = decide (v > 0) := by
    intro hs
    rw [wi32 (by omega) (by omega)]
    unfold F110
    rw [decide_eq_false h1]
    by_cases q1 : a < 128
    · rw [decide_eq_true q1, decide_eq_true (show a ≤ 127 by omega)]; exact ⟨1, 1, rfl, rfl, rfl⟩
    rw [decide_eq_false q1, decide_eq_false (show ¬ a ≤ 127 by omega)]
    by_cases q2 : a < 2048
    · rw [decide_eq_true q2, decide_eq_true (show a ≤ 2047 by omega)]; exact ⟨2, 2, rfl, rfl, rfl⟩
    rw [decide_eq_false q2, decide_eq_false (show ¬ a ≤ 2047 by omega)]
    have q3 : (bif decide (55296 ≤ a) then (some (decide (a ≤ 57343))) else (some false)) = some false := by
      by_cases q : 55296 ≤ a
      · rw [decide_eq_true q, decide_eq_false (show ¬ a ≤ 57343 by omega)]; rfl
      · rw [decide_eq_false q]; rfl
    rw [q3]
    by_cases q4 : a < 65536
    · rw [decide_eq_true q4, decide_eq_true (show a ≤ 65535 by omega)]; exact ⟨3, 3, rfl, rfl, rfl⟩
    rw [decide_eq_false q4, decide_eq_false (show ¬ a ≤ 65535 by omega), decide_eq_true (show a ≤ 1114111 by omega)]
    exact ⟨4, 4, rfl, rfl, rfl⟩
  by_cases h3 : a ≥ 55296
  · rw [decide_eq_true h3]
    by_cases h4 : a ≤ 57343
    · rw [decide_eq_true h4]; exact ⟨0, 0, rfl, rfl, rfl⟩
    · rw [decide_eq_false h4]; exact bytes (by omega)
  · rw [decide_eq_false h3]; exact bytes (by omega)

theorem e81 (k : Nat) (a b c : GItem) (h2 : (a.kind == 2) = false) : F81 k a = F91 k a b c := by
  obtain ⟨u, v, hu, hv, huv⟩ := x105 k a.rune
  unfold F81 F91
  simp only [t92, x104, x99, x100, hu, hv, Option.bind_some, huv, h2, cond_false]
  cases h1 : (a.kind == 1) with
  | true =>
    simp only [cond_true, beq_self_eq_true, Bool.true_and, Bool.and_true, Option.bind_some]
    cases (decide (1 ≤ a.size) && decide (a.size ≤ 67108864)) <;> cases (decide (0 ≤ a.width) && decide (a.width ≤ 1099511627776)) <;> cases (decide (0 ≤ a.height) && decide (a.height ≤ 1099511627776)) <;> cases (decide (0 ≤ a.depth) && decide (a.depth ≤ 1099511627776)) <;> cases decide (v > 0) <;> simp [bif_id]
  | false =>
  cases h3 : (a.kind == 3) with
  | true =>
    simp only [cond_true, cond_false, beq_self_eq_true, Bool.true_and, Bool.and_true, Option.bind_some, ge_iff_le]
    cases (decide (1 ≤ a.size) && decide (a.size ≤ 67108864)) <;> cases decide (0 ≤ a.width) <;> cases decide (a.width ≤ 67108864) <;> cases decide (0 ≤ a.stretch) <;> cases decide (a.stretch ≤ 67108864) <;> cases decide (0 ≤ a.shrink) <;> cases decide (a.shrink ≤ a.width) <;> simp [bif_id]
  | false =>
  cases h4 : (a.kind == 4) with
  | true =>
    simp only [cond_true, cond_false, beq_self_eq_true, Bool.true_and, Bool.and_true, Option.bind_some]
    by_cases q1 : a.value < -10000
    · rw [decide_eq_true q1, decide_eq_false (show ¬ -10000 ≤ a.value by omega)]
      cases a.flag <;> simp [bif_id]
    · rw [decide_eq_false q1, decide_eq_true (show -10000 ≤ a.value by omega)]
      by_cases q2 : a.value > 10000
      · rw [decide_eq_true q2, decide_eq_false (show ¬ a.value ≤ 10000 by omega)]
        cases a.flag <;> simp [bif_id]
      · rw [decide_eq_false q2, decide_eq_true (show a.value ≤ 10000 by omega)]
        cases a.flag with
        | false => simp
        | true =>
          cases (decide (1 ≤ a.size) && decide (a.size ≤ 67108864)) <;> cases (decide (0 ≤ a.width) && decide (a.width ≤ 1099511627776)) <;> cases (decide (0 ≤ a.height) && decide (a.height ≤ 1099511627776)) <;> cases (decide (0 ≤ a.depth) && decide (a.depth ≤ 1099511627776)) <;> cases (a.rune == 45) <;> cases decide (a.value > -10000) <;> simp [bif_id]
  | false => rfl

theorem e80 (k : Nat) (L : List GItem) (i : Nat) (y : GItem) (hl : L.length ≤ 4096) (hy : L[i]? = some y) (h2 : (y.kind == 2) = true) : F80 k L i = F91 k y (prevOf L i) (nextOf L i) := by
  have hi := lt_of_get hy
  have hy' : L[(i : Int).toNat]? = some y := by rw [show (i : Int).toNat = i by omega]; exact hy
  have e : y.kind = 2 := eq_of_beq h2
  unfold F80 F91
  simp only [bindI_eq (by omega : 0 ≤ (i : Int)) hy', t92, h2, show (y.kind == 1) = false by rw [e]; rfl, show (y.kind == 3) = false by rw [e]; rfl, show (y.kind == 4) = false by rw [e]; rfl, cond_true, cond_false, Option.bind_some]
  rw [w_id (n := (i : Int) + 1) (by omega) (by omega)]
  by_cases h0 : i = 0
  · subst h0
    have : prevOf L 0 = GItem.mk 0 ByteArray.empty 0 0 0 0 0 0 0 0 false 0 0 := rfl
    rw [this]; rfl
  · have h0' : ((i : Int) == 0) = false := by rw [beq_eq_false_iff_ne]; omega
    rw [h0', w_id (n := (i : Int) - 1) (by omega) (by omega)]
    obtain ⟨p, hp⟩ := at_of (L := L) (i := (i : Int) - 1) (by omega) (by omega)
    have ep : prevOf L i = p := by
      unfold prevOf
      rw [if_pos (by omega)]
      rw [show ((i : Int) - 1).toNat = i - 1 by omega] at hp
      rw [hp]; rfl
    rw [ep]
    by_cases h1 : i + 1 < L.length
    · rw [decide_eq_false (show ¬ ((i : Int) + 1 ≥ L.length) by omega)]
      obtain ⟨n, hn⟩ := at_of (L := L) (i := (i : Int) + 1) (by omega) (by omega)
      have en : nextOf L i = n := by
        unfold nextOf
        rw [show ((i : Int) + 1).toNat = i + 1 by omega] at hn
        rw [hn]; rfl
      rw [en]
      simp only [bindI_eq (by omega : 0 ≤ (i : Int) - 1) hp, bindI_eq (by omega : 0 ≤ (i : Int) + 1) hn, cond_false, Option.bind_some, e]
      cases hk1 : (p.kind == 1) with
      | false => simp [bne, hk1]
      | true =>
        cases hk2 : (n.kind == 1) with
        | false => simp [bne, hk1, hk2]
        | true =>
          simp only [bne, hk1, hk2, Bool.not_true, cond_true, cond_false, Option.bind_some, ge_iff_le]
          cases (y.width == 0) <;> cases decide (y.width ≤ 1099511627776) <;> cases decide (w (0 - if n.width < p.width then n.width else p.width) ≤ y.width) <;> simp [bif_id]
    · rw [decide_eq_true (show ((i : Int) + 1 ≥ L.length) by omega)]
      have en : nextOf L i = GItem.mk 0 ByteArray.empty 0 0 0 0 0 0 0 0 false 0 0 := by
        unfold nextOf
        rw [List.getElem?_eq_none (by omega)]; rfl
      rw [en]
      cases (p.kind == 1) <;> rfl

theorem hprev (L : List GItem) (i : Nat) (hi : i < L.length) (hl : L.length ≤ 4096) {β : Type} (f : Int × ByteArray × Int × Int × Int × Int × Int × Int × Int × Int × Bool × Int × Int → Option β) : (Option.bind (bif decide ((i : Int) > 0) then (bindI L (w ((i : Int) - 1)) fun y22 => some (y22.kind, y22.font, y22.size, y22.rune, y22.width, y22.height, y22.depth, y22.stretch, y22.shrink, y22.value, y22.flag, y22.from_, y22.to_)) else (some (0, ByteArray.empty, 0, 0, 0, 0, 0, 0, 0, 0, false, 0, 0))) f) =
    f ((prevOf L i).kind, (prevOf L i).font, (prevOf L i).size, (prevOf L i).rune, (prevOf L i).width, (prevOf L i).height, (prevOf L i).depth, (prevOf L i).stretch, (prevOf L i).shrink, (prevOf L i).value, (prevOf L i).flag, (prevOf L i).from_, (prevOf L i).to_) := by
  by_cases h0 : 0 < i
  · rw [decide_eq_true (show (i : Int) > 0 by omega), w_id (by omega) (by omega)]
    obtain ⟨z, hz⟩ := at_of (L := L) (i := (i : Int) - 1) (by omega) (by omega)
    rw [cond_true, bindI_eq (by omega) hz]
    unfold prevOf
    rw [if_pos h0]
    rw [show ((i : Int) - 1).toNat = i - 1 by omega] at hz
    rw [hz]; rfl
  · rw [decide_eq_false (show ¬ (i : Int) > 0 by omega), cond_false]
    unfold prevOf
    rw [if_neg h0]; rfl

theorem hnext (L : List GItem) (i : Nat) (hi : i < L.length) (hl : L.length ≤ 4096) {β : Type} (f : Int × ByteArray × Int × Int × Int × Int × Int × Int × Int × Int × Bool × Int × Int → Option β) : (Option.bind (bif decide ((w ((i : Int) + 1)) < (L.length : Int)) then (bindI L (w ((i : Int) + 1)) fun y22 => some (y22.kind, y22.font, y22.size, y22.rune, y22.width, y22.height, y22.depth, y22.stretch, y22.shrink, y22.value, y22.flag, y22.from_, y22.to_)) else (some (0, ByteArray.empty, 0, 0, 0, 0, 0, 0, 0, 0, false, 0, 0))) f) =
    f ((nextOf L i).kind, (nextOf L i).font, (nextOf L i).size, (nextOf L i).rune, (nextOf L i).width, (nextOf L i).height, (nextOf L i).depth, (nextOf L i).stretch, (nextOf L i).shrink, (nextOf L i).value, (nextOf L i).flag, (nextOf L i).from_, (nextOf L i).to_) := by
  rw [w_id (n := (i : Int) + 1) (by omega) (by omega)]
  by_cases h0 : i + 1 < L.length
  · rw [decide_eq_true (show (i : Int) + 1 < L.length by omega)]
    obtain ⟨z, hz⟩ := at_of (L := L) (i := (i : Int) + 1) (by omega) (by omega)
    rw [cond_true, bindI_eq (by omega) hz]
    unfold nextOf
    rw [show ((i : Int) + 1).toNat = i + 1 by omega] at hz
    rw [hz]; rfl
  · rw [decide_eq_false (show ¬ (i : Int) + 1 < L.length by omega), cond_false]
    unfold nextOf
    rw [List.getElem?_eq_none (by omega)]; rfl

theorem e64_l1 (k : Nat) (L : List GItem) (hl : L.length ≤ 4096) : ∀ (j : Nat) (v : Int) (i : Nat), i ≤ L.length → F40_l1 k L j v i = F64_l1 k L j v i
  | 0, v, i, h1 => rfl
  | j + 1, v, i, h1 => by
    unfold F40_l1 F64_l1
    by_cases hi : (i : Int) < L.length
    · rw [decide_eq_true hi]
      obtain ⟨y, hy⟩ := at_of (L := L) (i := (i : Int)) (by omega) hi
      have hb := fun {β : Type} (f : GItem → Option β) => bindI_eq (f := f) (by omega : 0 ≤ (i : Int)) hy
      have hy' : L[i]? = some y := by rw [show (i : Int).toNat = i by omega] at hy; exact hy
      have ih : ∀ v', F40_l1 k L j v' (w ((i : Int) + 1)) = F64_l1 k L j v' (w ((i : Int) + 1)) := by
        intro v'
        rw [w_id (n := (i : Int) + 1) (by omega) (by omega)]
        exact e64_l1 k L hl j v' (i + 1) (by omega)
      rw [cond_true, cond_true]
      simp only [hb, ih, hprev L i (by omega) hl, hnext L i (by omega) hl]
      obtain ⟨r, hr, _⟩ := t91 k y (prevOf L i) (nextOf L i)
      cases h2 : (y.kind == 2) with
      | true =>
        rw [e80 k L i y hl hy' h2, hr]
        simp only [Option.bind_some, cond_true]
      | false =>
        rw [e81 k y (prevOf L i) (nextOf L i) h2, hr]
        simp only [Option.bind_some, cond_false, t92]
        cases r with
        | false => rfl
        | true =>
          simp only [Bool.not_true, cond_false, Option.bind_some]
          cases decide (y.from_ < v) with
          | true => rfl
          | false =>
            simp only [cond_false, Option.bind_some]
            by_cases q1 : y.to_ < y.from_
            · rw [decide_eq_true q1, decide_eq_false (show ¬ y.from_ ≤ y.to_ by omega)]; rfl
            · rw [decide_eq_false q1, decide_eq_true (show y.from_ ≤ y.to_ by omega)]
              by_cases q2 : y.to_ > 65536
              · rw [decide_eq_true q2, decide_eq_false (show ¬ y.to_ ≤ 65536 by omega)]; rfl
              · rw [decide_eq_false q2, decide_eq_true (show y.to_ ≤ 65536 by omega)]; rfl
    · rw [decide_eq_false hi]; rfl

theorem x79 (k : Nat) (y : GItem) : F79 k y = some (y.kind == 4 && decide (y.value ≤ -10000)) := by
  unfold F79
  cases (y.kind == 4) <;> rfl

theorem e64 (k : Nat) (L : List GItem) (hk : L.length < k) : ∃ r s, F64 k L = some r ∧ F40 k L = some s ∧ (r != 0) = (s != 0) := by
  unfold F64 F40
  cases hc : decide ((L.length : Int) > 4096) with
  | true => exact ⟨130, 130, rfl, rfl, rfl⟩
  | false =>
    have hl : ¬ (L.length : Int) > 4096 := of_decide_eq_false hc
    obtain ⟨q, h1, h2⟩ := t64_l1 k L (by omega) k 0 0 (by omega) (by omega)
    have h1' : F64_l1 k L k 0 0 = some q := h1
    have h3' : F40_l1 k L k 0 0 = some q := (e64_l1 k L (by omega) k 0 0 (by omega)).trans h1
    rw [cond_false, cond_false, h1', h3']
    by_cases h0 : 0 < L.length
    · obtain ⟨y, hy⟩ := at_of (L := L) (i := (L.length : Int) - 1) (by omega) (by omega)
      have hb := fun {β : Type} (f : GItem → Option β) => bindI_eq (f := f) (by omega : 0 ≤ (L.length : Int) - 1) hy
      rw [decide_eq_true (show (L.length : Int) > 0 by omega), w_id (n := (L.length : Int) - 1) (by omega) (by omega)]
      simp only [hb, x79, cond_true, Option.bind_some]
      cases q with
      | inr n =>
        have hn : (n != 0) = true := by
          rw [bne_iff_ne]
          intro e
          subst e
          exact t64_no k L k 0 0 h1'
        cases (!(y.kind == 4 && decide (y.value ≤ -10000))) with
        | true => exact ⟨n, 1, rfl, rfl, hn⟩
        | false => exact ⟨n, n, rfl, rfl, rfl⟩
      | inl u =>
        have g := (h2 rfl) _ y (Nat.zero_le _) hy
        cases q4 : (y.kind == 4) with
        | false => exact ⟨1, 1, by simp [bne, q4], by simp, rfl⟩
        | true =>
          have hv := g.val (eq_of_beq q4)
          by_cases q5 : y.value = -10000
          · exact ⟨0, 0, by simp [bne, q4, q5], by simp [q5], rfl⟩
          · have q5' : (y.value == -10000) = false := by rw [beq_eq_false_iff_ne]; exact q5
            exact ⟨1, 1, by simp [bne, q4, q5'], by rw [decide_eq_false (show ¬ y.value ≤ -10000 by omega)]; rfl, rfl⟩
    · rw [decide_eq_false (show ¬ (L.length : Int) > 0 by omega)]
      cases q with
      | inr n => exact ⟨n, n, rfl, rfl, rfl⟩
      | inl u => exact ⟨0, 0, rfl, rfl, rfl⟩






/-- the line's last item -/
def tailOf (y : GItem) (n u v : Int) : Int × Bool × Bool × Int × Int :=
  bif y.kind == 4 then (w (n + y.width), y.flag, decide (y.value ≤ -10000), (bif y.flag then (if y.height > u then y.height else u) else u), (bif y.flag then (if y.depth > v then y.depth else v) else v)) else (n, false, false, u, v)

theorem kind_of68 (k : Nat) (L : List GItem) (i : Int) (y : GItem) (h0 : 0 ≤ i) (hy : L[i.toNat]? = some y) (h : F68 k L i = some true) : (y.kind == 3) = true ∨ ((y.kind == 4) = true ∧ y.value < 10000) := by
  unfold F68 at h
  rw [bindI_eq h0 hy] at h
  cases q : (y.kind == 3) with
  | true => exact .inl rfl
  | false =>
    rw [q, cond_false] at h
    cases q4 : (y.kind == 4) with
    | false => rw [q4] at h; cases h
    | true =>
      rw [q4, cond_true, bindI_eq h0 hy] at h
      exact .inr ⟨rfl, of_decide_eq_true (Option.some.inj h)⟩

theorem same_pen {y : GItem} (hf : Fine y) : (y.kind == 4 && (y.value == -10000)) = (y.kind == 4 && decide (y.value ≤ -10000)) := by
  cases q : (y.kind == 4) with
  | false => rfl
  | true =>
    have := hf.val (eq_of_beq q)
    rw [Bool.true_and, Bool.true_and, Bool.eq_iff_iff]
    simp
    omega

theorem bindA_eq {α β : Type} {n : Nat} {L M : List α} {f : List α → Option β} (h : (5 * (L.length + M.length) + 768) * n ≤ 1125899906842624) : bindA n L M f = f (L ++ M) := if_pos h

def frc (y : GItem) : Bool := y.kind == 4 && decide (y.value ≤ -10000)

/-- no line must end between two places -/
def Free (L : List GItem) (lo hi : Int) : Prop := ∀ (t : Nat) (y : GItem), lo < t → (t : Int) < hi → L[t]? = some y → frc y = false

theorem any_mid {L : List GItem} {lo hi : Int} (h0 : -1 ≤ lo) (h1 : hi ≤ L.length) : (((L.take hi.toNat).drop (lo + 1).toNat).any frc = false) ↔ Free L lo hi := by
  rw [List.any_eq_false]
  constructor
  · intro h t y a b hy
    have := h y (by
      refine List.mem_of_getElem? (i := t - (lo + 1).toNat) ?_
      rw [List.getElem?_drop, List.getElem?_take, if_pos (by omega), show (lo + 1).toNat + (t - (lo + 1).toNat) = t by omega]
      exact hy)
    simpa using this
  · intro h y hm
    obtain ⟨i, e⟩ := List.mem_iff_getElem?.1 hm
    rw [List.getElem?_drop, List.getElem?_take] at e
    split at e
    · rename_i hlt
      have := h _ y (by omega) (by omega) e
      rw [this]; simp
    · cases e

def nb (L : List GItem) : Nat := (L.filter fun y => y.kind == 1).length
theorem nb_append (A B : List GItem) : nb (A ++ B) = nb A + nb B := by unfold nb; rw [List.filter_append, List.length_append]
theorem nb_le (A : List GItem) : nb A ≤ A.length := List.length_filter_le _ _
theorem nb_split (L : List GItem) {m n : Nat} (h : m ≤ n) : nb (L.take n) = nb (L.take m) + nb ((L.take n).drop m) := by
  rw [← nb_append]
  congr 1
  have := (List.take_append_drop m (L.take n)).symm
  rw [List.take_take, Nat.min_eq_left h] at this
  exact this
theorem nb_zero (L : List GItem) {m n : Nat} (h : ∀ (t : Nat) (y : GItem), m ≤ t → t < n → L[t]? = some y → (y.kind == 1) = false) : nb ((L.take n).drop m) = 0 := by
  unfold nb
  rw [List.length_eq_zero_iff, List.filter_eq_nil_iff]
  intro y hy
  obtain ⟨i, e⟩ := List.mem_iff_getElem?.1 hy
  rw [List.getElem?_drop, List.getElem?_take] at e
  split at e
  · rename_i hlt
    rw [h _ y (by omega) hlt e]; simp
  · cases e
theorem nb_step (L : List GItem) {i n : Nat} {y : GItem} (hi : i < n) (hn : n ≤ L.length) (hy : L[i]? = some y) : nb ((L.take n).drop i) = (if (y.kind == 1) = true then 1 else 0) + nb ((L.take n).drop (i + 1)) := by
  have h1 : (L.take n)[i]? = some y := by rw [List.getElem?_take, if_pos hi]; exact hy
  rw [drop_at h1]
  unfold nb
  rw [List.filter_cons]
  split <;> simp <;> omega

theorem chk_last (k : Nat) (L : List GItem) (hl : L.length ≤ 4096) (h : F64 k L = some 0) (h0 : 0 < L.length) : ∃ y, L[L.length - 1]? = some y ∧ frc y = true := by
  unfold F64 at h
  rw [decide_eq_false (show ¬ (L.length : Int) > 4096 by omega), cond_false] at h
  obtain ⟨q, hq, h⟩ := bind_some h
  cases q with
  | inr n =>
    have hn : n = 0 := by simpa using h
    subst hn
    exact absurd hq (t64_no k L k 0 0)
  | inl u =>
    obtain ⟨y, hy⟩ := at_of (L := L) (i := (L.length : Int) - 1) (by omega) (by omega)
    simp only [Sum.elim_inl] at h
    rw [decide_eq_true (show (L.length : Int) > 0 by omega), cond_true, w_id (n := (L.length : Int) - 1) (by omega) (by omega), bindI_eq (by omega) hy, bindI_eq (by omega) hy] at h
    refine ⟨y, by rw [show ((L.length : Int) - 1).toNat = L.length - 1 by omega] at hy; exact hy, ?_⟩
    cases hk : (y.kind != 4) with
    | true => rw [hk] at h; cases h
    | false =>
      rw [hk] at h
      cases hv : (y.value != (-10000)) with
      | true => rw [hv] at h; cases h
      | false =>
        have e1 : y.kind = 4 := by simpa [bne] using hk
        have e2 : y.value = -10000 := by simpa [bne] using hv
        unfold frc
        rw [e1, e2]; rfl

/-- breaks that are a way, behind one -/
def WF (k : Nat) (L : List GItem) : Int → List Int → Prop
  | last, [] => Free L last L.length
  | last, b :: W => last < b ∧ b < L.length ∧ F68 k L b = some true ∧ Free L last b ∧ WF k L b W

theorem frc_legal (k : Nat) (L : List GItem) (i : Nat) (y : GItem) (hy : L[i]? = some y) (h : frc y = true) : F68 k L i = some true := by
  have h4 : (y.kind == 4) = true := by
    unfold frc at h
    cases e : (y.kind == 4) with
    | true => rfl
    | false => rw [e] at h; cases h
  have h3 : (y.kind == 3) = false := by
    have := eq_of_beq h4
    rw [this]; rfl
  have hv : y.value < 10000 := by
    unfold frc at h
    rw [h4, Bool.true_and, decide_eq_true_iff] at h
    omega
  have hy' : L[(i : Int).toNat]? = some y := by rw [show (i : Int).toNat = i by omega]; exact hy
  unfold F68
  rw [bindI_eq (by omega) hy', h3, cond_false, h4, cond_true, bindI_eq (by omega) hy', decide_eq_true hv]

theorem r30 (k : Nat) : ∀ (A acc : List Int), acc.length + A.length ≤ 100000 → F30_r1 k A acc = some (acc ++ A)
  | [], acc, _ => by rw [F30_r1]; simp
  | y :: A, acc, h => by
    simp only [List.length_cons] at h
    rw [F30_r1]
    unfold bindA
    rw [if_pos (by simp; omega)]
    dsimp only
    rw [r30 k A (acc ++ [y]) (by simp; omega), List.append_assoc]
    rfl


theorem bytes_self (x : ByteArray) : (x == x) = true := by
  first | exact beq_self_eq_true x | (obtain ⟨d⟩ := x; exact beq_self_eq_true d) | (show decide (x = x) = true; simp) | (cases x; simp [BEq.beq])

theorem e68 (k : Nat) (L : List GItem) (i : Int) : F67 k L i = F68 k L i := rfl



def mark : GItem := GItem.mk (-77) ByteArray.empty 0 0 0 0 0 0 0 0 false 0 0

theorem t29 (k : Nat) (L : List GItem) (hl : L.length ≤ 2147483647) : F29 k L = some (L ++ [mark]) := by
  unfold F29 bindA
  rw [if_pos (by simp; omega)]
  dsimp only
  rw [if_pos (by simp; omega)]
  rfl

theorem t32_l1 (k : Nat) (L : List GItem) (hl : L.length ≤ 2147483647) : ∀ (j i : Nat), i ≤ L.length → L.length < j + i → F32_l1 k (L ++ [mark]) L j i = some (.inl ())
  | 0, i, h1, h2 => by omega
  | j + 1, i, h1, h2 => by
    unfold F32_l1
    by_cases hi : (i : Int) < L.length
    · rw [decide_eq_true hi]
      obtain ⟨y, hy⟩ := at_of (L := L) (i := (i : Int)) (by omega) hi
      have hy' : (L ++ [mark])[(i : Int).toNat]? = some y := by rw [List.getElem?_append_left (by omega)]; exact hy
      rw [cond_true, bindI_eq (by omega) hy', bindI_eq (by omega) hy, w_id (n := (i : Int) + 1) (by omega) (by omega)]
      have := t32_l1 k L hl j (i + 1) (by omega) (by omega)
      simp only [beq_self_eq_true, bytes_self, Bool.and_self, Bool.not_true, cond_false]
      exact this
    · rw [decide_eq_false hi]; rfl

theorem t32 (k : Nat) (L : List GItem) (hl : L.length ≤ 2147483647) (hk : L.length < k) : F32 k (L ++ [mark]) L = some true := by
  unfold F32
  have h1 : (((L ++ [mark]).length : Int) != (w ((L.length : Int) + 1))) = false := by
    rw [w_id (by omega) (by omega)]
    simp
  have h2 : (L ++ [mark])[(L.length : Int).toNat]? = some mark := by simp
  have h3 := t32_l1 k L hl k 0 (by omega) (by omega)
  have h3' : F32_l1 k (L ++ [mark]) L k 0 = some (.inl ()) := h3
  rw [h1, bindI_eq (by omega) h2, h3']
  rfl


/-! ### What Legal answers -/
theorem legal_l1 (k : Nat) (L : List GItem) (hl : L.length ≤ 4096) : ∀ (j i : Nat) (acc : List Int), i ≤ L.length → L.length < j + i → acc.length ≤ i →
    ∃ A, walkL k L j i = some A ∧ F31_l1 k L j acc i = some (acc ++ A) ∧ A.length ≤ L.length - i
  | 0, i, acc, h1, h2, _ => by omega
  | j + 1, i, acc, h1, h2, h3 => by
    rw [walkL, F31_l1]
    by_cases hi : i < L.length
    · obtain ⟨b, hb⟩ := t68 k L i (by omega) (by omega) hl
      rw [decide_eq_true (show (i : Int) < L.length by omega), cond_true, cond_true, e68, hb, Option.bind_some, Option.bind_some, w_id (n := (i : Int) + 1) (by omega) (by omega), show (i : Int) + 1 = ((i + 1 : Nat) : Int) by omega]
      cases b with
      | false =>
        obtain ⟨A, a1, a2, a3⟩ := legal_l1 k L hl j (i + 1) acc (by omega) (by omega) (by omega)
        exact ⟨A, by rw [a1]; rfl, by rw [cond_false]; exact a2, by omega⟩
      | true =>
        obtain ⟨A, a1, a2, a3⟩ := legal_l1 k L hl j (i + 1) (acc ++ [(i : Int)]) (by omega) (by omega) (by rw [List.length_append, List.length_singleton]; omega)
        refine ⟨(i : Int) :: A, by rw [a1]; rfl, ?_, by rw [List.length_cons]; omega⟩
        rw [cond_true]
        unfold bindA
        rw [if_pos (by rw [List.length_singleton]; omega)]
        simp only [Option.bind_some]
        rw [a2, List.append_assoc]; rfl
    · rw [decide_eq_false (by omega), cond_false, cond_false]
      exact ⟨[], rfl, by rw [List.append_nil], by simp⟩
theorem legal (k : Nat) (L : List GItem) (hk : L.length + 4 ≤ k) (hn : L.length ≤ 2147483647) : ∃ A, F30 k L = some A ∧ F31 k L = some A ∧ A.length ≤ 4096 := by
  obtain ⟨r, hr, hg⟩ := t64 k L (by omega)
  obtain ⟨r', s, hr', hs, hrs⟩ := e64 k L (by omega)
  rw [hr] at hr'
  cases hr'
  by_cases h0 : r = 0
  · subst h0
    obtain ⟨hl, g⟩ := hg rfl
    have hs0 : (s != 0) = false := by rw [← hrs]; rfl
    obtain ⟨A, a1, a2, a3⟩ := legal_l1 k L hl k 0 [] (by omega) (by omega) (by simp)
    rw [show ((0 : Nat) : Int) = 0 from rfl] at a1 a2
    refine ⟨A, ?_, ?_, by omega⟩
    · unfold F30 F65
      rw [hr, Option.bind_some]
      have := r30 k A [] (by simp; omega)
      rw [List.nil_append] at this
      simp only [beq_self_eq_true, cond_true, Option.bind_some, a1, this]
    · unfold F31
      rw [hs, Option.bind_some, hs0, cond_false, a2]
      rfl
  · refine ⟨[], ?_, ?_, by simp⟩
    · unfold F30
      rw [hr, Option.bind_some, show (r == 0) = false by simpa using h0]
      rfl
    · unfold F31
      rw [hs, Option.bind_some, ← hrs, show (r != 0) = true by simpa using h0]
      rfl

/-! ### Gone through -/
theorem at_drop {A : List Int} {i : Nat} (hi : i < A.length) : A.drop i = A[i] :: A.drop (i + 1) := List.drop_eq_getElem_cons hi
theorem r3_ok (k : Nat) (A : List Int) (hl : A.length ≤ 4096) : ∀ (m i : Nat), A.length - i = m → i ≤ A.length → F8_r3 k A (A.drop i) i = some (.inl (A.length : Int))
  | 0, i, h, h1 => by
    rw [List.drop_eq_nil_of_le (by omega), F8_r3, show i = A.length by omega]
  | m + 1, i, h, h1 => by
    have hi : i < A.length := by omega
    rw [at_drop hi, F8_r3, decide_eq_false (by omega), cond_false, bindI_eq (y := A[i]) (by omega) (by simp [hi])]
    simp only [Option.bind_some, bne_self_eq_false, cond_false]
    rw [w_id (n := (i : Int) + 1) (by omega) (by omega), show (i : Int) + 1 = ((i + 1 : Nat) : Int) by omega]
    exact r3_ok k A hl m (i + 1) (by omega) (by omega)
theorem gl (A : List Int) (hl : A.length ≤ 4096) {β : Type} (x : Option β) : guardL A.length x = x := by
  unfold guardL
  rw [show Nat.ble (A.length + 2) 9223372036854775808 = true from by rw [Nat.ble_eq]; omega]
  rfl
theorem r2_ok (k : Nat) (A : List Int) (hl : A.length ≤ 4096) (v3 v6 : Int) : ∀ (m i : Nat), A.length - i = m → i ≤ A.length → ∃ r, F8_r2 k A A v3 v6 (A.drop i) i = some r ∧ (r = .inl (A.length : Int) ∨ ∃ n, r = .inr (.inr n))
  | 0, i, h, h1 => by
    rw [List.drop_eq_nil_of_le (by omega), F8_r2, show i = A.length by omega]
    exact ⟨_, rfl, .inl rfl⟩
  | m + 1, i, h, h1 => by
    have hi : i < A.length := by omega
    obtain ⟨r, hr, hr'⟩ := r2_ok k A hl v3 v6 m (i + 1) (by omega) (by omega)
    rw [at_drop hi, F8_r2, decide_eq_false (by omega), cond_false, bindI_eq (y := A[i]) (by omega) (by simp [hi])]
    simp only [Option.bind_some, bne_self_eq_false, cond_false]
    rw [w_id (n := (i : Int) + 1) (by omega) (by omega), show (i : Int) + 1 = ((i + 1 : Nat) : Int) by omega]
    cases hc : ((i + 1 : Nat) : Int) == v6 with
    | true => exact ⟨_, rfl, .inr ⟨_, rfl⟩⟩
    | false =>
      rw [cond_false]
      have hb : ∃ b : Bool, (bif decide (v3 > 1) then (some true) else (some (((i + 1 : Nat) : Int) != 2))) = some b := by
        cases decide (v3 > 1) with
        | true => exact ⟨_, rfl⟩
        | false => exact ⟨_, rfl⟩
      obtain ⟨b, hb⟩ := hb
      rw [hb]
      simp only [Option.bind_some]
      cases b with
      | true =>
        rw [cond_true]
        simp only [Option.bind_some, Sum.elim_inl]
        exact ⟨r, hr, hr'⟩
      | false =>
        rw [cond_false, gl A hl]
        have e3 := r3_ok k A hl (A.length - 0) 0 rfl (by omega)
        rw [List.drop_zero, show ((0 : Nat) : Int) = 0 from rfl] at e3
        rw [e3]
        simp only [Option.bind_some, Sum.elim_inl, bne_self_eq_false, cond_false]
        exact ⟨r, hr, hr'⟩
theorem t8_l1 (k : Nat) (B A : List Int) (hl : A.length ≤ 4096) : ∀ (j i : Nat), 21 ≤ j + i → i ≤ 20 → F8_l1 k B A A j i = some (.inl ())
  | 0, i, h, h1 => by omega
  | j + 1, i, h, h1 => by
    rw [F8_l1]
    have fin : ∀ v6 : Int, Option.bind (α := (Int × Bool) ⊕ ((Unit) ⊕ ((Unit) ⊕ (Bool)))) (guardL A.length (Option.bind (α := (Int) ⊕ ((Int) ⊕ ((Int)))) (F8_r2 k A A i v6 A 0) (Sum.elim (fun (v11 : Int) =>
    some (.inl (v11, false))) (Sum.elim (fun (v13 : Int) =>
    some (.inr (.inr (.inr false)))) (fun (v14 : Int) =>
    some (.inl (v14, true))))))) (Sum.elim (fun (v8, v9) =>
    Option.bind (α := Bool) (bif !v9 then (some (v8 != (A.length : Int))) else (some false)) fun (v27 : Bool) =>
    bif v27 then (some (.inr (.inr false))) else (some (.inl ()))) some) = some (.inl ()) := fun v6 => by
      rw [gl A hl]
      obtain ⟨r, hr, hr'⟩ := r2_ok k A hl i v6 (A.length - 0) 0 rfl (by omega)
      rw [List.drop_zero, show ((0 : Nat) : Int) = 0 from rfl] at hr
      rw [hr]
      rcases hr' with rfl | ⟨n, rfl⟩
      · simp only [Option.bind_some, Sum.elim_inl, Bool.not_false, cond_true, bne_self_eq_false, cond_false]
      · simp only [Option.bind_some, Sum.elim_inr, Sum.elim_inl, Bool.not_true, cond_false]
    by_cases h2 : (i : Int) ≤ B.length ∧ i < 20
    · have h3 : (bif decide ((i : Int) ≤ (B.length : Int)) then (some (decide ((i : Int) < 20))) else (some false)) = some true := by
        rw [decide_eq_true h2.1, cond_true, decide_eq_true (by omega)]
      rw [h3]
      simp only [Option.bind_some, cond_true]
      have h4 : ∃ v6 : Int, (bif decide ((i : Int) < (B.length : Int)) then (bindI B i fun y7 => some y7) else (some (-1))) = some v6 := by
        by_cases h5 : i < B.length
        · rw [decide_eq_true (by omega), cond_true, bindI_eq (y := B[i]) (by omega) (by simp [h5])]; exact ⟨_, rfl⟩
        · rw [decide_eq_false (by omega)]; exact ⟨_, rfl⟩
      obtain ⟨v6, h4⟩ := h4
      rw [h4]
      simp only [Option.bind_some]
      rw [fin v6]
      simp only [Option.bind_some, Sum.elim_inl]
      rw [w_id (n := (i : Int) + 1) (by omega) (by omega), show (i : Int) + 1 = ((i + 1 : Nat) : Int) by omega]
      exact t8_l1 k B A hl j (i + 1) (by omega) (by omega)
    · have h3 : (bif decide ((i : Int) ≤ (B.length : Int)) then (some (decide ((i : Int) < 20))) else (some false)) = some false := by
        by_cases h4 : (i : Int) ≤ B.length
        · rw [decide_eq_true h4, cond_true, decide_eq_false (by omega)]
        · rw [decide_eq_false h4]; rfl
      rw [h3]; rfl

/-- **What LineLegal computes is true.** -/
theorem t8 (L : List GItem) (B : List Int) (hl : (L.length : Int) < 9223372036854775808) : F8 (L.length + 40) L B = some true := by
  generalize hk : L.length + 40 = k
  unfold F8
  obtain ⟨b, hb1, hb'⟩ := t27 k L hl (by omega)
  rw [hb1, Option.bind_some]
  cases b with
  | true => rfl
  | false =>
    have hn := hb' rfl
    rw [cond_false, t29 k L hn, Option.bind_some]
    unfold bindS
    rw [if_pos ⟨by omega, by omega, by rw [List.length_append, List.length_singleton]; omega⟩]
    have e1 : ((L ++ [mark]).take (L.length : Int).toNat).drop (0 : Int).toNat = L := by simp
    rw [e1]
    obtain ⟨A, a1, a2, a3⟩ := legal k L (by omega) hn
    show (F30 k L).bind _ = _
    rw [a1, Option.bind_some, a2, Option.bind_some, t32 k L hn (by omega), Option.bind_some, Bool.not_true, cond_false]
    have hg : ∀ {β : Type} (x : Option β), guardL (L ++ [mark]).length x = x := fun x => by
      unfold guardL
      rw [show Nat.ble ((L ++ [mark]).length + 2) 9223372036854775808 = true from by rw [Nat.ble_eq, List.length_append, List.length_singleton]; omega]
      rfl
    rw [hg]
    have e2 := t8_l1 k B A a3 k 0 (by omega) (by omega)
    rw [show ((0 : Nat) : Int) = 0 from rfl] at e2
    rw [e2]; rfl
end
end Go.Eng.Lift
