/-
  Layer 14: what line.Line computes, plainly.
-/
import Derived.Test.YtjobmgleekphjaaX13b
set_option linter.unusedVariables false
set_option linter.unusedSimpArgs false
namespace Go.Eng.Lift
open Go.Proofs
noncomputable section

theorem w_id {n : Int} (h1 : -9223372036854775808 ≤ n) (h2 : n < 9223372036854775808) : w n = n := by
  unfold w
  first | (rw [wrap64]; omega) | (simp [IntKind.wrap, IntKind.signed, IntKind.bits]; omega)
theorem w_ge (n : Int) : -9223372036854775808 ≤ w n := by
  unfold w
  first | (rw [wrap64]; omega) | (simp [IntKind.wrap, IntKind.signed, IntKind.bits]; omega)
theorem w_lt (n : Int) : w n < 9223372036854775808 := by
  unfold w
  first | (rw [wrap64]; omega) | (simp [IntKind.wrap, IntKind.signed, IntKind.bits]; omega)

theorem bindI_eq {α β : Type} {L : List α} {i : Int} {f : α → Option β} {y : α} (h : 0 ≤ i) (hy : L[i.toNat]? = some y) : bindI L i f = f y := by
  unfold bindI
  rw [if_pos h, hy]; rfl
theorem at_of {α : Type} {L : List α} {i : Int} (h : 0 ≤ i) (h2 : i < L.length) : ∃ y, L[i.toNat]? = some y := ⟨_, List.getElem?_eq_getElem (by omega)⟩

theorem t92 (k : Nat) (a b c : Int) : F92 k a b c = some (decide (b ≤ a) && decide (a ≤ c)) := by
  unfold F92
  cases decide (b ≤ a) <;> rfl

theorem t104 (k : Nat) (x : GItem) : ∃ r, F104 k x = some r ∧ (r = true → 0 ≤ x.width ∧ x.width ≤ 1099511627776) := by
  unfold F104
  simp only [t92, Option.bind_some]
  cases h1 : (decide (1 ≤ x.size) && decide (x.size ≤ 67108864)) with
  | false => exact ⟨false, rfl, fun h => by cases h⟩
  | true =>
    cases h2 : (decide (0 ≤ x.width) && decide (x.width ≤ 1099511627776)) with
    | false => exact ⟨false, rfl, fun h => by cases h⟩
    | true =>
      have h3 : 0 ≤ x.width ∧ x.width ≤ 1099511627776 := by simpa using h2
      cases h4 : (decide (0 ≤ x.height) && decide (x.height ≤ 1099511627776)) with
      | false => exact ⟨false, rfl, fun h => by cases h⟩
      | true => exact ⟨_, rfl, fun _ => h3⟩

theorem t110 (k : Nat) (a : Int) : ∃ r, F110 k a = some r := by
  unfold F110
  cases decide (a < 0) with
  | true => exact ⟨_, rfl⟩
  | false =>
  cases decide (a ≤ 127) with
  | true => exact ⟨_, rfl⟩
  | false =>
  cases decide (a ≤ 2047) with
  | true => exact ⟨_, rfl⟩
  | false =>
  cases decide (55296 ≤ a) <;> cases decide (a ≤ 57343) <;> cases decide (a ≤ 65535) <;> cases decide (a ≤ 1114111) <;> exact ⟨_, rfl⟩
theorem t105 (k : Nat) (a : Int) : ∃ r, F105 k a = some r := by
  unfold F105
  obtain ⟨r, hr⟩ := t110 k (w_i32 a)
  rw [hr]
  cases decide (a < 0) <;> simp only [cond_true, cond_false, Option.bind_some]
  · cases decide (a > 1114111) <;> simp only [cond_true, cond_false, Option.bind_some]
    · cases decide (a ≥ 55296) <;> simp only [cond_true, cond_false, Option.bind_some]
      · exact ⟨_, rfl⟩
      · cases decide (a ≤ 57343) <;> exact ⟨_, rfl⟩
    · exact ⟨_, rfl⟩
  · exact ⟨_, rfl⟩


/-- what the check tells of an item -/
structure Good (a b c : GItem) : Prop where
  box : a.kind = 1 → 0 ≤ a.width ∧ a.width ≤ 1099511627776
  kern : a.kind = 2 → b.kind = 1 ∧ c.kind = 1 ∧ w (0 - (if c.width < b.width then c.width else b.width)) ≤ a.width ∧ a.width ≤ 1099511627776
  glue : a.kind = 3 → (0 ≤ a.width ∧ a.width ≤ 67108864) ∧ (0 ≤ a.stretch ∧ a.stretch ≤ 67108864) ∧ 0 ≤ a.shrink ∧ a.shrink ≤ a.width
  pen : a.kind = 4 → 0 ≤ a.width ∧ a.width ≤ 1099511627776
  val : a.kind = 4 → -10000 ≤ a.value

theorem fin91 {b : Bool} {x : Bool} : ∃ r, (Option.bind (α := Bool) (bif b then some x else some false) fun v => some v) = some r ∧ (r = true → b = true) := by
  cases b
  · exact ⟨false, rfl, fun h => by cases h⟩
  · exact ⟨x, rfl, fun _ => rfl⟩

theorem t91 (k : Nat) (a b c : GItem) : ∃ r, F91 k a b c = some r ∧ (r = true → Good a b c) := by
  obtain ⟨q, hq, hq'⟩ := t104 k a
  obtain ⟨u, hu⟩ := t105 k a.rune
  unfold F91
  simp only [t92, hq, hu, Option.bind_some]
  cases h1 : (a.kind == 1) with
  | true =>
    have e : a.kind = 1 := eq_of_beq h1
    cases q with
    | false => exact ⟨false, rfl, fun h => by cases h⟩
    | true =>
      have := hq' rfl
      have g : Good a b c := ⟨fun _ => this, fun h => by omega, fun h => by omega, fun h => by omega, fun h => by omega⟩
      cases decide (u > 0) with
      | false => exact ⟨false, rfl, fun h => by cases h⟩
      | true => exact ⟨_, rfl, fun _ => g⟩
  | false =>
  cases h2 : (a.kind == 2) with
  | true =>
    have e : a.kind = 2 := eq_of_beq h2
    cases h3 : (b.kind == 1) with
    | false => exact ⟨false, rfl, fun h => by cases h⟩
    | true =>
    cases h4 : (c.kind == 1) with
    | false => exact ⟨false, rfl, fun h => by cases h⟩
    | true =>
    cases h5 : (a.width != 0) with
    | false => exact ⟨false, rfl, fun h => by cases h⟩
    | true =>
    cases h6 : (decide (w (0 - (if c.width < b.width then c.width else b.width)) ≤ a.width) && decide (a.width ≤ 1099511627776)) with
    | false => exact ⟨false, rfl, fun h => by cases h⟩
    | true =>
      have h7 : w (0 - (if c.width < b.width then c.width else b.width)) ≤ a.width ∧ a.width ≤ 1099511627776 := by simpa using h6
      have g : Good a b c := ⟨fun h => by omega, fun _ => ⟨eq_of_beq h3, eq_of_beq h4, h7⟩, fun h => by omega, fun h => by omega, fun h => by omega⟩
      exact ⟨_, rfl, fun _ => g⟩
  | false =>
  cases h3 : (a.kind == 3) with
  | true =>
    have e : a.kind = 3 := eq_of_beq h3
    cases h4 : (decide (1 ≤ a.size) && decide (a.size ≤ 67108864)) with
    | false => exact ⟨false, rfl, fun h => by cases h⟩
    | true =>
    cases h5 : (decide (0 ≤ a.width) && decide (a.width ≤ 67108864)) with
    | false => exact ⟨false, rfl, fun h => by cases h⟩
    | true =>
    cases h6 : (decide (0 ≤ a.stretch) && decide (a.stretch ≤ 67108864)) with
    | false => exact ⟨false, rfl, fun h => by cases h⟩
    | true =>
    cases h7 : (decide (0 ≤ a.shrink) && decide (a.shrink ≤ a.width)) with
    | false => exact ⟨false, rfl, fun h => by cases h⟩
    | true =>
      have h5' : 0 ≤ a.width ∧ a.width ≤ 67108864 := by simpa using h5
      have h6' : 0 ≤ a.stretch ∧ a.stretch ≤ 67108864 := by simpa using h6
      have h7' : 0 ≤ a.shrink ∧ a.shrink ≤ a.width := by simpa using h7
      have g : Good a b c := ⟨fun h => by omega, fun h => by omega, fun _ => ⟨h5', h6', h7'⟩, fun h => by omega, fun h => by omega⟩
      exact ⟨_, rfl, fun _ => g⟩
  | false =>
  cases h4 : (a.kind == 4) with
  | true =>
    have e : a.kind = 4 := eq_of_beq h4
    cases hv : (decide (-10000 ≤ a.value) && decide (a.value ≤ 10000)) with
    | false => cases hf : a.flag <;> exact ⟨false, rfl, fun h => by cases h⟩
    | true =>
    have hval : -10000 ≤ a.value := by have : -10000 ≤ a.value ∧ a.value ≤ 10000 := by simpa using hv
                                       exact this.1
    cases hf : a.flag with
    | false =>
      refine ⟨_, rfl, fun h => ?_⟩
      simp only [Bool.and_eq_true, beq_iff_eq] at h
      have hw : a.width = 0 := h.2.2.2.2.1
      exact ⟨fun h => by omega, fun h => by omega, fun h => by omega, fun _ => by omega, fun _ => hval⟩
    | true =>
    cases q with
    | false => exact ⟨false, rfl, fun h => by cases h⟩
    | true =>
      have := hq' rfl
      have g : Good a b c := ⟨fun h => by omega, fun h => by omega, fun h => by omega, fun _ => this, fun _ => hval⟩
      cases hr : (a.rune == 45) with
      | false => exact ⟨false, rfl, fun h => by cases h⟩
      | true =>
        cases decide (a.value > -10000) with
        | false => exact ⟨false, rfl, fun h => by cases h⟩
        | true => exact ⟨_, rfl, fun _ => g⟩
  | false => exact ⟨false, rfl, fun h => by cases h⟩

def prevOf (L : List GItem) (i : Nat) : GItem := if 0 < i then (L[i - 1]?).getD (GItem.mk 0 ByteArray.empty 0 0 0 0 0 0 0 0 false 0 0) else GItem.mk 0 ByteArray.empty 0 0 0 0 0 0 0 0 false 0 0
def nextOf (L : List GItem) (i : Nat) : GItem := (L[i + 1]?).getD (GItem.mk 0 ByteArray.empty 0 0 0 0 0 0 0 0 false 0 0)

theorem t64_l1 (k : Nat) (L : List GItem) (hl : L.length ≤ 4096) : ∀ (j : Nat) (v : Int) (i : Nat), i ≤ L.length → L.length < j + i →
    ∃ r, F64_l1 k L j v i = some r ∧ (r = .inl () → ∀ t y, i ≤ t → L[t]? = some y → Good y (prevOf L t) (nextOf L t))
  | 0, v, i, h1, h2 => by omega
  | j + 1, v, i, h1, h2 => by
    unfold F64_l1
    cases hc : decide ((i : Int) < (L.length : Int)) with
    | false =>
      have : ¬ (i : Int) < L.length := of_decide_eq_false hc
      refine ⟨.inl (), rfl, fun _ t y ht hy => ?_⟩
      have := lt_of_get hy
      omega
    | true =>
      have hi : (i : Int) < L.length := of_decide_eq_true hc
      obtain ⟨y, hy⟩ := at_of (L := L) (i := (i : Int)) (by omega) hi
      have hp : ∀ {β : Type} (f : Int × ByteArray × Int × Int × Int × Int × Int × Int × Int × Int × Bool × Int × Int → Option β), (Option.bind (bif decide ((i : Int) > 0) then (bindI L (w ((i : Int) - 1)) fun y22 => some (y22.kind, y22.font, y22.size, y22.rune, y22.width, y22.height, y22.depth, y22.stretch, y22.shrink, y22.value, y22.flag, y22.from_, y22.to_)) else (some (0, ByteArray.empty, 0, 0, 0, 0, 0, 0, 0, 0, false, 0, 0))) f) = 
          f ((prevOf L i).kind, (prevOf L i).font, (prevOf L i).size, (prevOf L i).rune, (prevOf L i).width, (prevOf L i).height, (prevOf L i).depth, (prevOf L i).stretch, (prevOf L i).shrink, (prevOf L i).value, (prevOf L i).flag, (prevOf L i).from_, (prevOf L i).to_) := by
        intro β f
        by_cases h0 : 0 < i
        · rw [decide_eq_true (show (i : Int) > 0 by omega), w_id (by omega) (by omega)]
          obtain ⟨z, hz⟩ := at_of (L := L) (i := (i : Int) - 1) (by omega) (by omega)
          rw [cond_true, bindI_eq (by omega) hz]
          have : (i : Int).toNat - 1 = i - 1 := by omega
          unfold prevOf
          rw [if_pos h0]
          rw [show ((i : Int) - 1).toNat = i - 1 by omega] at hz
          rw [hz]; rfl
        · rw [decide_eq_false (show ¬ (i : Int) > 0 by omega), cond_false]
          unfold prevOf
          rw [if_neg h0]; rfl
      have hn : ∀ {β : Type} (f : Int × ByteArray × Int × Int × Int × Int × Int × Int × Int × Int × Bool × Int × Int → Option β), (Option.bind (bif decide ((w ((i : Int) + 1)) < (L.length : Int)) then (bindI L (w ((i : Int) + 1)) fun y22 => some (y22.kind, y22.font, y22.size, y22.rune, y22.width, y22.height, y22.depth, y22.stretch, y22.shrink, y22.value, y22.flag, y22.from_, y22.to_)) else (some (0, ByteArray.empty, 0, 0, 0, 0, 0, 0, 0, 0, false, 0, 0))) f) = 
          f ((nextOf L i).kind, (nextOf L i).font, (nextOf L i).size, (nextOf L i).rune, (nextOf L i).width, (nextOf L i).height, (nextOf L i).depth, (nextOf L i).stretch, (nextOf L i).shrink, (nextOf L i).value, (nextOf L i).flag, (nextOf L i).from_, (nextOf L i).to_) := by
        intro β f
        rw [w_id (n := (i : Int) + 1) (by omega) (by omega)]
        by_cases h0 : i + 1 < L.length
        · rw [decide_eq_true (show (i : Int) + 1 < L.length by omega)]
          obtain ⟨z, hz⟩ := at_of (L := L) (i := (i : Int) + 1) (by omega) (by omega)
          rw [cond_true, bindI_eq (by omega) hz]
          unfold nextOf
          rw [show ((i : Int) + 1).toNat = i + 1 by omega] at hz
          rw [hz]; rfl
        · rw [decide_eq_false (show ¬ (i : Int) + 1 < L.length by omega), cond_false]
          unfold nextOf
          rw [List.getElem?_eq_none (by omega)]; rfl
      rw [cond_true, bindI_eq (by omega) hy]
      rw [show (i : Int).toNat = i by omega] at hy
      simp only [hp, hn]
      obtain ⟨r, hr, hg⟩ := t91 k y (prevOf L i) (nextOf L i)
      rw [hr]
      simp only [Option.bind_some]
      cases r with
      | false => exact ⟨.inr 1, rfl, fun h => by cases h⟩
      | true =>
        have g := hg rfl
        have step : ∀ v', ∃ r, F64_l1 k L j v' (w ((i : Int) + 1)) = some r ∧ (r = .inl () → ∀ t y, i ≤ t → L[t]? = some y → Good y (prevOf L t) (nextOf L t)) := by
          intro v'
          rw [w_id (n := (i : Int) + 1) (by omega) (by omega)]
          obtain ⟨r, h3, h4⟩ := t64_l1 k L hl j v' (i + 1) (by omega) (by omega)
          refine ⟨r, h3, fun e t z ht hz => ?_⟩
          by_cases hti : t = i
          · subst hti
            rw [hy] at hz; cases hz; exact g
          · exact h4 e t z (by omega) hz
        cases (y.kind == 2) with
        | true => exact step v
        | false =>
          simp only [t92]
          cases decide (y.from_ < v) with
          | true => exact ⟨.inr 1, rfl, fun h => by cases h⟩
          | false =>
            cases (decide (y.from_ ≤ y.to_) && decide (y.to_ ≤ 65536)) with
            | false => exact ⟨.inr 1, rfl, fun h => by cases h⟩
            | true => exact step y.to_

theorem t64_no (k : Nat) (L : List GItem) : ∀ (j : Nat) (v i : Int), F64_l1 k L j v i ≠ some (.inr 0)
  | 0, v, i => by unfold F64_l1; intro h; cases h
  | j + 1, v, i => by
    have ih := t64_no k L j
    unfold F64_l1
    intro h
    cases hc : decide (i < (L.length : Int)) with
    | false => rw [hc] at h; cases h
    | true =>
      rw [hc, cond_true] at h
      obtain ⟨x, hx, h⟩ := bind_some h
      cases x with
      | inl v' => exact ih _ _ h
      | inr q =>
        have hq : q = .inr 0 := by simpa using h
        subst hq
        obtain ⟨y, _, _, hx⟩ := bindI_some hx
        obtain ⟨p, _, hx⟩ := bind_some hx
        obtain ⟨n, _, hx⟩ := bind_some hx
        obtain ⟨p1, p2, p3, p4, p5, p6, p7, p8, p9, p10, p11, p12, p13⟩ := p
        obtain ⟨n1, n2, n3, n4, n5, n6, n7, n8, n9, n10, n11, n12, n13⟩ := n
        obtain ⟨r, _, hx⟩ := bind_some hx
        cases r with
        | false => cases hx
        | true =>
          simp only [Bool.not_true, cond_false] at hx
          cases hk : (y.kind == 2) with
          | true => rw [hk] at hx; cases hx
          | false =>
            rw [hk, cond_false] at hx
            obtain ⟨b, _, hx⟩ := bind_some hx
            cases b <;> cases hx

theorem t64 (k : Nat) (L : List GItem) (hk : L.length < k) : ∃ r, F64 k L = some r ∧ (r = 0 → L.length ≤ 4096 ∧ ∀ t y, L[t]? = some y → Good y (prevOf L t) (nextOf L t)) := by
  unfold F64
  cases hc : decide ((L.length : Int) > 4096) with
  | true => exact ⟨130, rfl, fun h => by omega⟩
  | false =>
    have hl : ¬ (L.length : Int) > 4096 := of_decide_eq_false hc
    obtain ⟨r, h1, h2⟩ := t64_l1 k L (by omega) k 0 0 (by omega) (by omega)
    rw [cond_false]
    have h1' : F64_l1 k L k 0 0 = some r := h1
    rw [h1', Option.bind_some]
    cases r with
    | inr n =>
      refine ⟨n, rfl, fun e => ?_⟩
      subst e
      exact (t64_no k L k 0 0 h1').elim
    | inl u =>
      have g := h2 rfl
      have good : L.length ≤ 4096 ∧ ∀ t y, L[t]? = some y → Good y (prevOf L t) (nextOf L t) := ⟨by omega, fun t y hy => g t y (by omega) hy⟩
      simp only [Sum.elim_inl]
      by_cases h0 : 0 < L.length
      · obtain ⟨y, hy⟩ := at_of (L := L) (i := (L.length : Int) - 1) (by omega) (by omega)
        rw [decide_eq_true (show (L.length : Int) > 0 by omega), cond_true, w_id (n := (L.length : Int) - 1) (by omega) (by omega), bindI_eq (by omega) hy, bindI_eq (by omega) hy]
        cases (y.kind != 4) with
        | true => exact ⟨1, rfl, fun h => by cases h⟩
        | false =>
          cases (y.value != (-10000)) with
          | true => exact ⟨1, rfl, fun h => by cases h⟩
          | false => exact ⟨0, rfl, fun _ => good⟩
      · rw [decide_eq_false (show ¬ (L.length : Int) > 0 by omega)]
        exact ⟨0, rfl, fun _ => good⟩

theorem t68 (k : Nat) (L : List GItem) (i : Int) (h0 : 0 ≤ i) (h1 : i < L.length) (hl : L.length ≤ 4096) : ∃ r, F68 k L i = some r := by
  obtain ⟨y, hy⟩ := at_of h0 h1
  unfold F68
  rw [bindI_eq h0 hy]
  cases (y.kind == 3) with
  | true =>
    by_cases h2 : 0 < i
    · obtain ⟨z, hz⟩ := at_of (L := L) (i := i - 1) (by omega) (by omega)
      rw [decide_eq_true (show i > 0 by omega), w_id (n := i - 1) (by omega) (by omega), bindI_eq (by omega) hz]
      exact ⟨_, rfl⟩
    · rw [decide_eq_false (show ¬ i > 0 by omega)]
      exact ⟨_, rfl⟩
  | false =>
    cases (y.kind == 4) with
    | true => rw [bindI_eq h0 hy]; exact ⟨_, rfl⟩
    | false => exact ⟨_, rfl⟩

theorem t70 (k : Nat) (y : GItem) : ∃ r, F70 k y = some r := by
  unfold F70
  cases (y.kind == 4) <;> exact ⟨_, rfl⟩

theorem t94_l1 (k : Nat) (L : List GItem) (hl : L.length ≤ 4096) : ∀ (j i : Nat), i ≤ L.length → L.length < j + i → ∃ r, F94_70_l1 k L j i = some r
  | 0, i, h1, h2 => by omega
  | j + 1, i, h1, h2 => by
    unfold F94_70_l1
    cases hc : decide ((i : Int) < (L.length : Int)) with
    | false => exact ⟨_, rfl⟩
    | true =>
      have hi : (i : Int) < L.length := of_decide_eq_true hc
      obtain ⟨y, hy⟩ := at_of (L := L) (i := (i : Int)) (by omega) hi
      obtain ⟨r, hr⟩ := t70 k y
      rw [cond_true, bindI_eq (by omega) hy, hr, Option.bind_some]
      cases r with
      | true => exact ⟨_, rfl⟩
      | false =>
        rw [w_id (n := (i : Int) + 1) (by omega) (by omega)]
        exact t94_l1 k L hl j (i + 1) (by omega) (by omega)

theorem t69 (k : Nat) (L : List GItem) (hl : L.length ≤ 4096) (hk : L.length < k) : ∃ r, F69_70 k L = some r := by
  unfold F69_70 F94_70
  obtain ⟨r, hr⟩ := t94_l1 k L hl k 0 (by omega) (by omega)
  have hr' : F94_70_l1 k L k 0 = some r := hr
  rw [hr', Option.bind_some]
  cases r <;> exact ⟨_, rfl⟩

theorem t71_l1 (k : Nat) (L : List GItem) (a3 : Int) (hl : L.length ≤ 4096) (h3 : a3 < L.length) : ∀ (j : Nat) (v : Int), 0 ≤ v → v ≤ a3 → a3 - v < j → ∃ r, F71_l1 k L a3 j v = some r ∧ v ≤ r ∧ r ≤ a3
  | 0, v, h0, h1, h2 => by omega
  | j + 1, v, h0, h1, h2 => by
    unfold F71_l1
    by_cases hv : v < a3
    · obtain ⟨y, hy⟩ := at_of (L := L) (i := v) (by omega) (by omega)
      rw [decide_eq_true hv, cond_true, bindI_eq (by omega) hy, Option.bind_some]
      cases (y.kind != 1) with
      | false => exact ⟨v, rfl, by omega, by omega⟩
      | true =>
        rw [w_id (n := v + 1) (by omega) (by omega)]
        obtain ⟨r, k1, k2, k3⟩ := t71_l1 k L a3 hl h3 j (v + 1) (by omega) (by omega) (by omega)
        exact ⟨r, k1, by omega, k3⟩
    · rw [decide_eq_false hv]
      exact ⟨v, rfl, by omega, by omega⟩

theorem t71_l2 (k : Nat) (L : List GItem) (v1 : Int) (hl : L.length ≤ 4096) (h0 : 0 ≤ v1) : ∀ (j : Nat) (v : Int), v1 ≤ v → v ≤ L.length → v - v1 < j → ∃ r, F71_l2 k L v1 j v = some r ∧ v1 ≤ r ∧ r ≤ v
  | 0, v, h1, h3, h2 => by omega
  | j + 1, v, h1, h3, h2 => by
    unfold F71_l2
    by_cases hv : v > v1
    · obtain ⟨y, hy⟩ := at_of (L := L) (i := v - 1) (by omega) (by omega)
      rw [decide_eq_true hv, cond_true, w_id (n := v - 1) (by omega) (by omega), bindI_eq (by omega) hy, Option.bind_some]
      cases (y.kind != 1) with
      | false => exact ⟨v, rfl, by omega, by omega⟩
      | true =>
        obtain ⟨r, k1, k2, k3⟩ := t71_l2 k L v1 hl h0 j (v - 1) (by omega) (by omega) (by omega)
        exact ⟨r, k1, by omega, by omega⟩
    · rw [decide_eq_false hv]
      exact ⟨v, rfl, by omega, by omega⟩


/-! ### What a line's sums come to -/
structure Fine (y : GItem) : Prop where
  width : y.kind = 1 ∨ y.kind = 2 ∨ y.kind = 3 → -1099511627776 ≤ y.width ∧ y.width ≤ 1099511627776
  glue : y.kind = 3 → (0 ≤ y.stretch ∧ y.stretch ≤ 67108864) ∧ 0 ≤ y.shrink ∧ y.shrink ≤ 67108864
  pen : y.kind = 4 → 0 ≤ y.width ∧ y.width ≤ 1099511627776
  val : y.kind = 4 → -10000 ≤ y.value

theorem fine_of {L : List GItem} (h : ∀ t y, L[t]? = some y → Good y (prevOf L t) (nextOf L t)) {t : Nat} {y : GItem} (hy : L[t]? = some y) : Fine y := by
  have g := h t y hy
  refine ⟨fun hk => ?_, fun hk => ?_, g.pen, g.val⟩
  · rcases hk with hk | hk | hk
    · have := g.box hk; omega
    · obtain ⟨k1, k2, k3, k4⟩ := g.kern hk
      have hp : 0 ≤ (prevOf L t).width ∧ (prevOf L t).width ≤ 1099511627776 := by
        unfold prevOf at k1 ⊢
        by_cases h0 : 0 < t
        · rw [if_pos h0] at k1 ⊢
          cases hz : L[t - 1]? with
          | none => rw [hz] at k1; cases k1
          | some z =>
            rw [hz] at k1
            exact (h _ z hz).box k1
        · rw [if_neg h0] at k1; cases k1
      have hn : 0 ≤ (nextOf L t).width ∧ (nextOf L t).width ≤ 1099511627776 := by
        unfold nextOf at k2 ⊢
        cases hz : L[t + 1]? with
        | none => rw [hz] at k2; cases k2
        | some z =>
          rw [hz] at k2
          exact (h _ z hz).box k2
      split at k3
      · rw [w_id (by omega) (by omega)] at k3; omega
      · rw [w_id (by omega) (by omega)] at k3; omega
    · have := g.glue hk; omega
  · have := g.glue hk; omega

theorem t71_l3 (k : Nat) (M : List GItem) (hl : M.length ≤ 4096) (hf : ∀ (t : Nat) (y : GItem), M[t]? = some y → Fine y) : ∀ (j i : Nat) (a b c d e : Int), i ≤ M.length → M.length < j + i → -1099511627776 * i ≤ a → a ≤ 1099511627776 * i → 0 ≤ b → b ≤ 67108864 * i → 0 ≤ c → c ≤ 67108864 * i →
    ∃ a' b' c' d' e', F71_l3 k M j i a b c d e = some (a', b', c', d', e') ∧ -4503599627370496 ≤ a' ∧ a' ≤ 4503599627370496 ∧ 0 ≤ b' ∧ b' ≤ 274877906944 ∧ 0 ≤ c' ∧ c' ≤ 274877906944
  | 0, i, a, b, c, d, e, h1, h2, h3, h4, h5, h6, h7, h8 => by omega
  | j + 1, i, a, b, c, d, e, h1, h2, h3, h4, h5, h6, h7, h8 => by
    unfold F71_l3
    by_cases hi : (i : Int) < M.length
    · obtain ⟨y, hy⟩ := at_of (L := M) (i := (i : Int)) (by omega) hi
      have fy := hf _ y hy
      rw [decide_eq_true hi, cond_true, bindI_eq (by omega) hy]
      rw [w_id (n := (i : Int) + 1) (by omega) (by omega)]
      cases q1 : (y.kind == 1) with
      | true =>
        have wy := fy.width (.inl (eq_of_beq q1))
        rw [w_id (n := a + y.width) (by omega) (by omega)]
        exact t71_l3 k M hl hf j (i + 1) _ _ _ _ _ (by omega) (by omega) (by omega) (by omega) (by omega) (by omega) (by omega) (by omega)
      | false =>
      cases q2 : (y.kind == 2) with
      | true =>
        have wy := fy.width (.inr (.inl (eq_of_beq q2)))
        rw [w_id (n := a + y.width) (by omega) (by omega)]
        exact t71_l3 k M hl hf j (i + 1) _ _ _ _ _ (by omega) (by omega) (by omega) (by omega) (by omega) (by omega) (by omega) (by omega)
      | false =>
      cases q3 : (y.kind == 3) with
      | true =>
        have wy := fy.width (.inr (.inr (eq_of_beq q3)))
        have gy := fy.glue (eq_of_beq q3)
        rw [w_id (n := a + y.width) (by omega) (by omega), w_id (n := b + y.stretch) (by omega) (by omega), w_id (n := c + y.shrink) (by omega) (by omega)]
        exact t71_l3 k M hl hf j (i + 1) _ _ _ _ _ (by omega) (by omega) (by omega) (by omega) (by omega) (by omega) (by omega) (by omega)
      | false => exact t71_l3 k M hl hf j (i + 1) _ _ _ _ _ (by omega) (by omega) (by omega) (by omega) (by omega) (by omega) (by omega) (by omega)
    · rw [decide_eq_false hi]
      exact ⟨a, b, c, d, e, rfl, by omega, by omega, by omega, by omega, by omega, by omega⟩

/-! ### How bad a line is -/
theorem t106 (k : Nat) (x : Int) (h : 100 ≤ x) (h' : x ≤ 1000) : ∃ r, F106 k x = some r ∧ 100 ≤ r := by
  unfold F106
  refine ⟨_, rfl, ?_⟩
  have a1 : 100 * 100 ≤ x * x := Int.mul_le_mul h h (by omega) (by omega)
  have a2 : x * x ≤ 1000 * 1000 := Int.mul_le_mul h' h' (by omega) (by omega)
  have a3 : 10000 * 100 ≤ x * x * x := Int.mul_le_mul (by omega) h (by omega) (by omega)
  have a4 : x * x * x ≤ 1000000 * 1000 := Int.mul_le_mul (by omega) h' (by omega) (by omega)
  rw [w_id (n := x * x) (by omega) (by omega), w_id (n := x * x * x) (by omega) (by omega), Int.tdiv_eq_ediv_of_nonneg (by omega)]
  rw [w_id (n := x * x * x / 10000) (by omega) (by omega)]
  split <;> omega

/-- what a line's numbers keep -/
def Keeps (x : GLine) : Prop := x.over_ = false → x.bad < 100 → w (0 - x.short) ≤ x.shrink ∧ (x.end_ = true ∨ x.short ≤ x.stretch)

theorem t95 (k : Nat) (x : GLine) (hs : 0 ≤ x.stretch) (hs' : x.stretch ≤ 274877906944) (hk : 0 ≤ x.shrink) (hk' : x.shrink ≤ 274877906944) (ht : -9007199254740992 ≤ x.short) (ht' : x.short ≤ 9007199254740992) :
    ∃ r, F95 k x = some r ∧ Keeps r := by
  unfold F95
  have e106 : ∀ y, ∃ r, F106 k y = some r := fun y => ⟨_, rfl⟩
  rw [w_id (n := 0 - x.shrink) (by omega) (by omega), w_id (n := 0 - x.short) (by omega) (by omega)]
  by_cases h1 : x.short < 0
  · rw [decide_eq_true h1]
    by_cases h2 : x.short < 0 - x.shrink
    · rw [decide_eq_true h2]
      exact ⟨_, rfl, fun h => by cases h⟩
    · rw [decide_eq_false h2]
      have h3 : (x.short == 0) = false := by rw [beq_eq_false_iff_ne]; omega
      have h4 : decide (x.short > 0) = false := decide_eq_false (by omega)
      rw [h3, h4]
      obtain ⟨q, hq⟩ := e106 (w (Int.tdiv (w (100 * (0 - x.short))) x.shrink))
      have keep : ∀ b c, Keeps (GLine.mk x.first x.last x.break_ x.natural x.stretch x.shrink x.short b c x.over_ x.hyphen x.end_ x.height x.depth) := fun b c _ _ =>
        ⟨by show w (0 - x.short) ≤ x.shrink; rw [w_id (by omega) (by omega)]; omega, .inr (by show x.short ≤ x.stretch; omega)⟩
      simp only [cond_true, cond_false, Option.bind_some, bindD, if_neg (show ¬ x.shrink = 0 by omega), hq]
      cases decide (w (Int.tdiv (w (100 * (0 - x.short))) x.shrink) > 50)
      · exact ⟨_, rfl, keep _ _⟩
      · exact ⟨_, rfl, keep _ _⟩
  · rw [decide_eq_false h1]
    have k1 : w (0 - x.short) ≤ x.shrink := by rw [w_id (by omega) (by omega)]; omega
    by_cases h3 : x.short = 0
    · have h3' : (x.short == 0) = true := by rw [h3]; rfl
      rw [h3']
      exact ⟨_, rfl, fun _ _ => ⟨k1, .inr (by show x.short ≤ x.stretch; omega)⟩⟩
    · have h3' : (x.short == 0) = false := by rw [beq_eq_false_iff_ne]; exact h3
      rw [h3', decide_eq_true (show x.short > 0 by omega)]
      cases he : x.end_ with
      | true => exact ⟨_, rfl, fun _ _ => ⟨k1, .inl rfl⟩⟩
      | false =>
      by_cases h4 : x.stretch = 0
      · have h4' : (x.stretch == 0) = true := by rw [h4]; rfl
        rw [h4']
        exact ⟨_, rfl, fun _ h => by have h' : (10000 : Int) < 100 := h; omega⟩
      · have h4' : (x.stretch == 0) = false := by rw [beq_eq_false_iff_ne]; exact h4
        rw [h4']
        have d0 : 0 ≤ 100 * x.short / x.stretch := Int.ediv_nonneg (by omega) (by omega)
        have d1 : 100 * x.short / x.stretch ≤ 100 * x.short := Int.ediv_le_self _ (by omega)
        have ew : w (Int.tdiv (w (100 * x.short)) x.stretch) = 100 * x.short / x.stretch := by
          rw [w_id (n := 100 * x.short) (by omega) (by omega), Int.tdiv_eq_ediv_of_nonneg (by omega), w_id (by omega) (by omega)]
        rw [ew]
        generalize hd : (if 1000 < 100 * x.short / x.stretch then (1000 : Int) else 100 * x.short / x.stretch) = d
        obtain ⟨q, hq⟩ := e106 d
        have keep : ∀ c, Keeps (GLine.mk x.first x.last x.break_ x.natural x.stretch x.shrink x.short q c x.over_ x.hyphen false x.height x.depth) := fun c _ hb => by
          refine ⟨k1, .inr ?_⟩
          show x.short ≤ x.stretch
          by_cases h5 : x.short ≤ x.stretch
          · exact h5
          · exfalso
            have h6 : 100 ≤ 100 * x.short / x.stretch := (Int.le_ediv_iff_mul_le (by omega)).2 (by omega)
            obtain ⟨r, hr, hr'⟩ := t106 k d (by rw [← hd]; split <;> omega) (by rw [← hd]; split <;> omega)
            rw [hq] at hr; cases hr
            have hb' : q < 100 := hb
            omega
        simp only [cond_true, cond_false, Option.bind_some, bindD, if_neg h4, hq]
        cases decide (d ≤ 50) with
        | true => exact ⟨_, rfl, keep _⟩
        | false =>
          cases decide (d ≤ 100) with
          | true => exact ⟨_, rfl, keep _⟩
          | false => exact ⟨_, rfl, keep _⟩

theorem t71 (k : Nat) (L : List GItem) (a1 a2 a3 : Int) (hl : L.length ≤ 4096) (hk : L.length < k) (hf : ∀ (t : Nat) (y : GItem), L[t]? = some y → Fine y) (h1 : 1 ≤ a1) (h1' : a1 ≤ 536870912) (h2 : -1 ≤ a2) (h3 : a2 < a3) (h4 : a3 < L.length) :
    ∃ r, F71 k L a1 a2 a3 = some r ∧ Keeps r := by
  unfold F71
  rw [w_id (n := a2 + 1) (by omega) (by omega)]
  obtain ⟨v1, e1, k1, k2⟩ := t71_l1 k L a3 hl h4 k (a2 + 1) (by omega) (by omega) (by omega)
  rw [e1, Option.bind_some]
  obtain ⟨v7, e2, k3, k4⟩ := t71_l2 k L v1 hl (by omega) k a3 (by omega) (by omega) (by omega)
  rw [e2, Option.bind_some]
  unfold bindS
  rw [if_pos ⟨by omega, by omega, by omega⟩]
  obtain ⟨a, b, c, d, e, e3, b1, b2, b3, b4, b5, b6⟩ := t71_l3 k ((L.take v7.toNat).drop v1.toNat) (by simp; omega) (fun t y hy => by
    rw [List.getElem?_drop, List.getElem?_take] at hy
    split at hy
    · exact hf _ y hy
    · cases hy) k 0 0 0 0 0 0 (by omega) (by simp; omega) (by omega) (by omega) (by omega) (by omega) (by omega) (by omega)
  have e3' : F71_l3 k ((L.take v7.toNat).drop v1.toNat) k 0 0 0 0 0 0 = some (a, b, c, d, e) := e3
  dsimp only
  rw [e3', Option.bind_some]
  dsimp only
  obtain ⟨y, hy⟩ := at_of (L := L) (i := a3) (by omega) h4
  rw [bindI_eq (by omega) hy]
  have fin : ∀ (n : Int) (f g : Bool) (u v : Int), -4503599627370496 ≤ n → n ≤ 4504699139000000 → ∃ r, (F95 k (GLine.mk v1 v7 a3 n b c (w (a1 - n)) 0 0 false f g u v)).bind (fun r51 => some r51) = some r ∧ Keeps r := by
    intro n f g u v n1 n2
    rw [w_id (n := a1 - n) (by omega) (by omega)]
    obtain ⟨r, hr, hr'⟩ := t95 k (GLine.mk v1 v7 a3 n b c (a1 - n) 0 0 false f g u v) b3 b4 b5 b6 (by show _ ≤ a1 - n; omega) (by show a1 - n ≤ _; omega)
    rw [hr]
    exact ⟨r, rfl, hr'⟩
  cases q : (y.kind == 4) with
  | false => exact fin _ _ _ _ _ (by omega) (by omega)
  | true =>
    obtain ⟨r, hr⟩ := t70 k y
    have := (hf _ y hy).pen (eq_of_beq q)
    have ew := w_id (n := a + y.width) (by omega) (by omega)
    rw [cond_true, hr, Option.bind_some]
    cases hy' : y.flag with
    | false => rw [cond_false, Option.bind_some]; exact fin (w (a + y.width)) _ _ _ _ (by omega) (by omega)
    | true => rw [cond_true, Option.bind_some]; exact fin (w (a + y.width)) _ _ _ _ (by omega) (by omega)

theorem keep0 : Keeps (GLine.mk 0 0 0 0 0 0 0 0 0 false false false 0 0) := fun _ _ => ⟨by rw [w_id (by decide) (by decide)]; decide, .inr (by decide)⟩

theorem t34 (k : Nat) (L : List GItem) (a1 a2 a3 : Int) (hk : L.length < k) : ∃ r, F34 k L a1 a2 a3 = some r ∧ (r.2 = 0 → Keeps r.1) := by
  unfold F34
  obtain ⟨r, hr, hg⟩ := t64 k L hk
  rw [hr, Option.bind_some]
  have bad : ∃ r : GLine × Int, (some ((GLine.mk 0 0 0 0 0 0 0 0 0 false false false 0 0), 1) : Option (GLine × Int)) = some r ∧ (r.2 = 0 → Keeps r.1) := ⟨_, rfl, fun _ => keep0⟩
  by_cases h0 : r = 0
  · obtain ⟨hl, g⟩ := hg h0
    have hf : ∀ (t : Nat) (y : GItem), L[t]? = some y → Fine y := fun t y hy => fine_of g hy
    have h0' : (r != 0) = false := by rw [h0]; rfl
    rw [h0']
    by_cases h1 : a1 < 1
    · rw [decide_eq_true h1]; exact bad
    rw [decide_eq_false h1]
    by_cases h2 : a1 > 536870912
    · rw [decide_eq_true h2]; exact bad
    rw [decide_eq_false h2]
    by_cases h3 : a2 < -1
    · rw [decide_eq_true h3]; exact bad
    rw [decide_eq_false h3]
    by_cases h4 : a2 ≥ a3
    · rw [decide_eq_true h4]; exact bad
    rw [decide_eq_false h4]
    by_cases h5 : a3 ≥ L.length
    · rw [decide_eq_true h5]; exact bad
    rw [decide_eq_false h5]
    obtain ⟨b, hb⟩ := t68 k L a3 (by omega) (by omega) hl
    rw [hb]
    obtain ⟨x, hx, hx'⟩ := t71 k L a1 a2 a3 hl hk hf (by omega) (by omega) (by omega) (by omega) (by omega)
    have good : ∃ r : GLine × Int, (bindS L (w (a2 + 1)) a3 fun l9 => (F69_70 k l9).bind fun r43 => bif r43 then (some ((GLine.mk 0 0 0 0 0 0 0 0 0 false false false 0 0), 1)) else ((F71 k L a1 a2 a3).bind fun r46 => some (r46, 0))) = some r ∧ (r.2 = 0 → Keeps r.1) := by
      rw [w_id (by omega) (by omega)]
      unfold bindS
      rw [if_pos ⟨by omega, by omega, by omega⟩]
      obtain ⟨q, hq⟩ := t69 k ((L.take a3.toNat).drop (a2 + 1).toNat) (by simp; omega) (by simp; omega)
      dsimp only
      rw [hq, Option.bind_some, hx]
      cases q with
      | true => exact bad
      | false => exact ⟨_, rfl, fun _ => hx'⟩
    cases b with
    | false => exact bad
    | true =>
      by_cases h6 : a2 ≥ 0
      · rw [decide_eq_true h6]
        obtain ⟨c, hc⟩ := t68 k L a2 (by omega) (by omega) hl
        rw [hc]
        cases c with
        | false => exact bad
        | true => exact good
      · rw [decide_eq_false h6]
        exact good
  · have h0' : (r != 0) = true := by rw [bne_iff_ne]; exact h0
    rw [h0']
    exact bad

theorem t60 (k : Nat) (a b : Int) (ha : 0 ≤ a) (hb : 0 ≤ b) : ∃ r, F60 k a b = some r ∧ a ≤ r ∨ (∃ r, F60 k a b = some r ∧ 2147483647 < r) := by
  unfold F60
  by_cases h1 : a > 2147483647
  · rw [decide_eq_true h1]
    exact ⟨2147483648, .inr ⟨_, rfl, by decide⟩⟩
  · rw [decide_eq_false h1, w_id (n := 2147483647 - a) (by omega) (by omega)]
    by_cases h2 : b > 2147483647 - a
    · rw [decide_eq_true h2]
      exact ⟨2147483648, .inr ⟨_, rfl, by decide⟩⟩
    · rw [decide_eq_false h2]
      refine ⟨a + b, .inl ⟨?_, by omega⟩⟩
      rw [w_id (n := a + b) (by omega) (by omega)]
      rfl

theorem t27_l1 (k : Nat) (L : List GItem) (hl : (L.length : Int) < 9223372036854775808) : ∀ (j i : Nat) (v : Int), 0 ≤ v → i ≤ L.length → L.length < j + i → ∃ r, F27_l1 k L j v i = some r ∧ (r ≤ 2147483647 → v ≤ r)
  | 0, i, v, h0, h1, h2 => by omega
  | j + 1, i, v, h0, h1, h2 => by
    unfold F27_l1
    by_cases hi : (i : Int) < L.length
    · rw [decide_eq_true hi]
      by_cases hv : v ≤ 2147483647
      · rw [decide_eq_true hv]
        obtain ⟨y, hy⟩ := at_of (L := L) (i := (i : Int)) (by omega) hi
        simp only [cond_true, Option.bind_some]
        rw [bindI_eq (by omega) hy, w_id (n := (i : Int) + 1) (by omega) (by omega)]
        obtain ⟨_, h | h⟩ := t60 k v (y.font.size : Int) h0 (by omega)
        · obtain ⟨h3, h4⟩ := h
          rw [h3, Option.bind_some]
          obtain ⟨r, h5, h6⟩ := t27_l1 k L hl j (i + 1) _ (Int.le_trans h0 h4) (by omega) (by omega)
          exact ⟨r, h5, fun h => Int.le_trans h4 (h6 h)⟩
        · obtain ⟨u, h3, h4⟩ := h
          rw [h3, Option.bind_some]
          obtain ⟨r, h5, h6⟩ := t27_l1 k L hl j (i + 1) u (by omega) (by omega) (by omega)
          exact ⟨r, h5, fun h => by have := h6 h; omega⟩
      · rw [decide_eq_false hv]
        exact ⟨v, rfl, fun _ => Int.le_refl _⟩
    · rw [decide_eq_false hi]
      exact ⟨v, rfl, fun _ => Int.le_refl _⟩

theorem t27 (k : Nat) (L : List GItem) (hl : (L.length : Int) < 9223372036854775808) (hk : L.length < k) : ∃ r, F27 k L = some r ∧ (r = false → L.length ≤ 2147483647) := by
  unfold F27
  obtain ⟨r, h1, h2⟩ := t27_l1 k L hl k 0 L.length (by omega) (by omega) (by omega)
  have h1' : F27_l1 k L k (L.length : Int) 0 = some r := h1
  rw [h1', Option.bind_some]
  refine ⟨_, rfl, fun h => ?_⟩
  have h3 : ¬ r > 2147483647 := of_decide_eq_false h
  have := h2 (by omega)
  omega


theorem x70 (k : Nat) (y : GItem) : F70 k y = some (y.kind == 4 && decide (y.value ≤ -10000)) := by
  unfold F70
  cases (y.kind == 4) <;> rfl
theorem bif_id (b : Bool) : (bif b then some true else some false) = some b := by cases b <;> rfl

theorem x104 (k : Nat) (x : GItem) : F104 k x = some ((decide (1 ≤ x.size) && decide (x.size ≤ 67108864)) && ((decide (0 ≤ x.width) && decide (x.width ≤ 1099511627776)) && ((decide (0 ≤ x.height) && decide (x.height ≤ 1099511627776)) && (decide (0 ≤ x.depth) && decide (x.depth ≤ 1099511627776))))) := by
  unfold F104
  simp only [t92, Option.bind_some]
  cases (decide (1 ≤ x.size) && decide (x.size ≤ 67108864)) <;> cases (decide (0 ≤ x.width) && decide (x.width ≤ 1099511627776)) <;> cases (decide (0 ≤ x.height) && decide (x.height ≤ 1099511627776)) <;> cases (decide (0 ≤ x.depth) && decide (x.depth ≤ 1099511627776)) <;> rfl

theorem x99 (k : Nat) (a : Int) : F99 k a = some (decide (1 ≤ a) && decide (a ≤ 67108864)) := by
  unfold F99
  have e : decide (a ≥ 1) = decide (1 ≤ a) := rfl
  rw [e]
  cases decide (1 ≤ a) <;> rfl
theorem x100 (k : Nat) (a : Int) : F100 k a = some (decide (0 ≤ a) && decide (a ≤ 1099511627776)) := by
  unfold F100
  have e : decide (a ≥ 0) = decide (0 ≤ a) := rfl
  rw [e]
  cases decide (0 ≤ a) <;> rfl

theorem wi32 {a : Int} (h : 0 ≤ a) (h' : a ≤ 1114111) : w_i32 a = a := by
  unfold w_i32
  rw [IntKind.wrap_i32]; omega

/-- a character's bytes: there are some, or none -/
theorem x105 (k : Nat) (a : Int) : ∃ u v, F105 k a = some u ∧ F98 k a = some v ∧ decide (u > 0) = decide (v > 0) := by
  unfold F105 F98
  by_cases h1 : a < 0
  · rw [decide_eq_true h1]; exact ⟨0, 0, rfl, rfl, rfl⟩
  rw [decide_eq_false h1]
  by_cases h2 : a > 1114111
  · rw [decide_eq_true h2]; exact ⟨0, 0, rfl, rfl, rfl⟩
  rw [decide_eq_false h2]
  have bytes : (¬ (a ≥ 55296 ∧ a ≤ 57343)) → ∃ u v : Int, (F110 k (w_i32 a)).bind (fun r14 => some r14) = some u ∧ (bif decide (a < 128) then (some (1 : Int)) else (bif decide (a < 2048) then (some 2) else (bif decide (a < 65536) then (some 3) else (some 4)))) = some v ∧ decide (u > 0) = decide (v > 0) := by
    intro hs
    rw [wi32 (by omega) (by omega)]
    unfold F110
    rw [decide_eq_false h1]
    by_cases q1 : a < 128
    · rw [decide_eq_true q1, decide_eq_true (show a ≤ 127 by omega)]; exact ⟨1, 1, rfl, rfl, rfl⟩
    rw [decide_eq_false q1, decide_eq_false (show ¬ a ≤ 127 by omega)]
    by_cases q2 : a < 2048
    · rw [decide_eq_true q2, decide_eq_true (show a ≤ 2047 by omega)]; exact ⟨2, 2, rfl, rfl, rfl⟩
    rw [decide_eq_false q2, decide_eq_false (show ¬ a ≤ 2047 by omega)]
    have q3 : (bif decide (55296 ≤ a) then (some (decide (a ≤ 57343))) else (some false)) = some false := by
      by_cases q : 55296 ≤ a
      · rw [decide_eq_true q, decide_eq_false (show ¬ a ≤ 57343 by omega)]; rfl
      · rw [decide_eq_false q]; rfl
    rw [q3]
    by_cases q4 : a < 65536
    · rw [decide_eq_true q4, decide_eq_true (show a ≤ 65535 by omega)]; exact ⟨3, 3, rfl, rfl, rfl⟩
    rw [decide_eq_false q4, decide_eq_false (show ¬ a ≤ 65535 by omega), decide_eq_true (show a ≤ 1114111 by omega)]
    exact ⟨4, 4, rfl, rfl, rfl⟩
  by_cases h3 : a ≥ 55296
  · rw [decide_eq_true h3]
    by_cases h4 : a ≤ 57343
    · rw [decide_eq_true h4]; exact ⟨0, 0, rfl, rfl, rfl⟩
    · rw [decide_eq_false h4]; exact bytes (by omega)
  · rw [decide_eq_false h3]; exact bytes (by omega)

theorem e81 (k : Nat) (a b c : GItem) (h2 : (a.kind == 2) = false) : F81 k a = F91 k a b c := by
  obtain ⟨u, v, hu, hv, huv⟩ := x105 k a.rune
  unfold F81 F91
  simp only [t92, x104, x99, x100, hu, hv, Option.bind_some, huv, h2, cond_false]
  cases h1 : (a.kind == 1) with
  | true =>
    simp only [cond_true, beq_self_eq_true, Bool.true_and, Bool.and_true, Option.bind_some]
    cases (decide (1 ≤ a.size) && decide (a.size ≤ 67108864)) <;> cases (decide (0 ≤ a.width) && decide (a.width ≤ 1099511627776)) <;> cases (decide (0 ≤ a.height) && decide (a.height ≤ 1099511627776)) <;> cases (decide (0 ≤ a.depth) && decide (a.depth ≤ 1099511627776)) <;> cases decide (v > 0) <;> simp [bif_id]
  | false =>
  cases h3 : (a.kind == 3) with
  | true =>
    simp only [cond_true, cond_false, beq_self_eq_true, Bool.true_and, Bool.and_true, Option.bind_some, ge_iff_le]
    cases (decide (1 ≤ a.size) && decide (a.size ≤ 67108864)) <;> cases decide (0 ≤ a.width) <;> cases decide (a.width ≤ 67108864) <;> cases decide (0 ≤ a.stretch) <;> cases decide (a.stretch ≤ 67108864) <;> cases decide (0 ≤ a.shrink) <;> cases decide (a.shrink ≤ a.width) <;> simp [bif_id]
  | false =>
  cases h4 : (a.kind == 4) with
  | true =>
    simp only [cond_true, cond_false, beq_self_eq_true, Bool.true_and, Bool.and_true, Option.bind_some]
    by_cases q1 : a.value < -10000
    · rw [decide_eq_true q1, decide_eq_false (show ¬ -10000 ≤ a.value by omega)]
      cases a.flag <;> simp [bif_id]
    · rw [decide_eq_false q1, decide_eq_true (show -10000 ≤ a.value by omega)]
      by_cases q2 : a.value > 10000
      · rw [decide_eq_true q2, decide_eq_false (show ¬ a.value ≤ 10000 by omega)]
        cases a.flag <;> simp [bif_id]
      · rw [decide_eq_false q2, decide_eq_true (show a.value ≤ 10000 by omega)]
        cases a.flag with
        | false => simp
        | true =>
          cases (decide (1 ≤ a.size) && decide (a.size ≤ 67108864)) <;> cases (decide (0 ≤ a.width) && decide (a.width ≤ 1099511627776)) <;> cases (decide (0 ≤ a.height) && decide (a.height ≤ 1099511627776)) <;> cases (decide (0 ≤ a.depth) && decide (a.depth ≤ 1099511627776)) <;> cases (a.rune == 45) <;> cases decide (a.value > -10000) <;> simp [bif_id]
  | false => rfl

theorem e80 (k : Nat) (L : List GItem) (i : Nat) (y : GItem) (hl : L.length ≤ 4096) (hy : L[i]? = some y) (h2 : (y.kind == 2) = true) : F80 k L i = F91 k y (prevOf L i) (nextOf L i) := by
  have hi := lt_of_get hy
  have hy' : L[(i : Int).toNat]? = some y := by rw [show (i : Int).toNat = i by omega]; exact hy
  have e : y.kind = 2 := eq_of_beq h2
  unfold F80 F91
  simp only [bindI_eq (by omega : 0 ≤ (i : Int)) hy', t92, h2, show (y.kind == 1) = false by rw [e]; rfl, show (y.kind == 3) = false by rw [e]; rfl, show (y.kind == 4) = false by rw [e]; rfl, cond_true, cond_false, Option.bind_some]
  rw [w_id (n := (i : Int) + 1) (by omega) (by omega)]
  by_cases h0 : i = 0
  · subst h0
    have : prevOf L 0 = GItem.mk 0 ByteArray.empty 0 0 0 0 0 0 0 0 false 0 0 := rfl
    rw [this]; rfl
  · have h0' : ((i : Int) == 0) = false := by rw [beq_eq_false_iff_ne]; omega
    rw [h0', w_id (n := (i : Int) - 1) (by omega) (by omega)]
    obtain ⟨p, hp⟩ := at_of (L := L) (i := (i : Int) - 1) (by omega) (by omega)
    have ep : prevOf L i = p := by
      unfold prevOf
      rw [if_pos (by omega)]
      rw [show ((i : Int) - 1).toNat = i - 1 by omega] at hp
      rw [hp]; rfl
    rw [ep]
    by_cases h1 : i + 1 < L.length
    · rw [decide_eq_false (show ¬ ((i : Int) + 1 ≥ L.length) by omega)]
      obtain ⟨n, hn⟩ := at_of (L := L) (i := (i : Int) + 1) (by omega) (by omega)
      have en : nextOf L i = n := by
        unfold nextOf
        rw [show ((i : Int) + 1).toNat = i + 1 by omega] at hn
        rw [hn]; rfl
      rw [en]
      simp only [bindI_eq (by omega : 0 ≤ (i : Int) - 1) hp, bindI_eq (by omega : 0 ≤ (i : Int) + 1) hn, cond_false, Option.bind_some, e]
      cases hk1 : (p.kind == 1) with
      | false => simp [bne, hk1]
      | true =>
        cases hk2 : (n.kind == 1) with
        | false => simp [bne, hk1, hk2]
        | true =>
          simp only [bne, hk1, hk2, Bool.not_true, cond_true, cond_false, Option.bind_some, ge_iff_le]
          cases (y.width == 0) <;> cases decide (y.width ≤ 1099511627776) <;> cases decide (w (0 - if n.width < p.width then n.width else p.width) ≤ y.width) <;> simp [bif_id]
    · rw [decide_eq_true (show ((i : Int) + 1 ≥ L.length) by omega)]
      have en : nextOf L i = GItem.mk 0 ByteArray.empty 0 0 0 0 0 0 0 0 false 0 0 := by
        unfold nextOf
        rw [List.getElem?_eq_none (by omega)]; rfl
      rw [en]
      cases (p.kind == 1) <;> rfl

theorem hprev (L : List GItem) (i : Nat) (hi : i < L.length) (hl : L.length ≤ 4096) {β : Type} (f : Int × ByteArray × Int × Int × Int × Int × Int × Int × Int × Int × Bool × Int × Int → Option β) : (Option.bind (bif decide ((i : Int) > 0) then (bindI L (w ((i : Int) - 1)) fun y22 => some (y22.kind, y22.font, y22.size, y22.rune, y22.width, y22.height, y22.depth, y22.stretch, y22.shrink, y22.value, y22.flag, y22.from_, y22.to_)) else (some (0, ByteArray.empty, 0, 0, 0, 0, 0, 0, 0, 0, false, 0, 0))) f) =
    f ((prevOf L i).kind, (prevOf L i).font, (prevOf L i).size, (prevOf L i).rune, (prevOf L i).width, (prevOf L i).height, (prevOf L i).depth, (prevOf L i).stretch, (prevOf L i).shrink, (prevOf L i).value, (prevOf L i).flag, (prevOf L i).from_, (prevOf L i).to_) := by
  by_cases h0 : 0 < i
  · rw [decide_eq_true (show (i : Int) > 0 by omega), w_id (by omega) (by omega)]
    obtain ⟨z, hz⟩ := at_of (L := L) (i := (i : Int) - 1) (by omega) (by omega)
    rw [cond_true, bindI_eq (by omega) hz]
    unfold prevOf
    rw [if_pos h0]
    rw [show ((i : Int) - 1).toNat = i - 1 by omega] at hz
    rw [hz]; rfl
  · rw [decide_eq_false (show ¬ (i : Int) > 0 by omega), cond_false]
    unfold prevOf
    rw [if_neg h0]; rfl

theorem hnext (L : List GItem) (i : Nat) (hi : i < L.length) (hl : L.length ≤ 4096) {β : Type} (f : Int × ByteArray × Int × Int × Int × Int × Int × Int × Int × Int × Bool × Int × Int → Option β) : (Option.bind (bif decide ((w ((i : Int) + 1)) < (L.length : Int)) then (bindI L (w ((i : Int) + 1)) fun y22 => some (y22.kind, y22.font, y22.size, y22.rune, y22.width, y22.height, y22.depth, y22.stretch, y22.shrink, y22.value, y22.flag, y22.from_, y22.to_)) else (some (0, ByteArray.empty, 0, 0, 0, 0, 0, 0, 0, 0, false, 0, 0))) f) =
    f ((nextOf L i).kind, (nextOf L i).font, (nextOf L i).size, (nextOf L i).rune, (nextOf L i).width, (nextOf L i).height, (nextOf L i).depth, (nextOf L i).stretch, (nextOf L i).shrink, (nextOf L i).value, (nextOf L i).flag, (nextOf L i).from_, (nextOf L i).to_) := by
  rw [w_id (n := (i : Int) + 1) (by omega) (by omega)]
  by_cases h0 : i + 1 < L.length
  · rw [decide_eq_true (show (i : Int) + 1 < L.length by omega)]
    obtain ⟨z, hz⟩ := at_of (L := L) (i := (i : Int) + 1) (by omega) (by omega)
    rw [cond_true, bindI_eq (by omega) hz]
    unfold nextOf
    rw [show ((i : Int) + 1).toNat = i + 1 by omega] at hz
    rw [hz]; rfl
  · rw [decide_eq_false (show ¬ (i : Int) + 1 < L.length by omega), cond_false]
    unfold nextOf
    rw [List.getElem?_eq_none (by omega)]; rfl

theorem e64_l1 (k : Nat) (L : List GItem) (hl : L.length ≤ 4096) : ∀ (j : Nat) (v : Int) (i : Nat), i ≤ L.length → F40_l1 k L j v i = F64_l1 k L j v i
  | 0, v, i, h1 => rfl
  | j + 1, v, i, h1 => by
    unfold F40_l1 F64_l1
    by_cases hi : (i : Int) < L.length
    · rw [decide_eq_true hi]
      obtain ⟨y, hy⟩ := at_of (L := L) (i := (i : Int)) (by omega) hi
      have hb := fun {β : Type} (f : GItem → Option β) => bindI_eq (f := f) (by omega : 0 ≤ (i : Int)) hy
      have hy' : L[i]? = some y := by rw [show (i : Int).toNat = i by omega] at hy; exact hy
      have ih : ∀ v', F40_l1 k L j v' (w ((i : Int) + 1)) = F64_l1 k L j v' (w ((i : Int) + 1)) := by
        intro v'
        rw [w_id (n := (i : Int) + 1) (by omega) (by omega)]
        exact e64_l1 k L hl j v' (i + 1) (by omega)
      rw [cond_true, cond_true]
      simp only [hb, ih, hprev L i (by omega) hl, hnext L i (by omega) hl]
      obtain ⟨r, hr, _⟩ := t91 k y (prevOf L i) (nextOf L i)
      cases h2 : (y.kind == 2) with
      | true =>
        rw [e80 k L i y hl hy' h2, hr]
        simp only [Option.bind_some, cond_true]
      | false =>
        rw [e81 k y (prevOf L i) (nextOf L i) h2, hr]
        simp only [Option.bind_some, cond_false, t92]
        cases r with
        | false => rfl
        | true =>
          simp only [Bool.not_true, cond_false, Option.bind_some]
          cases decide (y.from_ < v) with
          | true => rfl
          | false =>
            simp only [cond_false, Option.bind_some]
            by_cases q1 : y.to_ < y.from_
            · rw [decide_eq_true q1, decide_eq_false (show ¬ y.from_ ≤ y.to_ by omega)]; rfl
            · rw [decide_eq_false q1, decide_eq_true (show y.from_ ≤ y.to_ by omega)]
              by_cases q2 : y.to_ > 65536
              · rw [decide_eq_true q2, decide_eq_false (show ¬ y.to_ ≤ 65536 by omega)]; rfl
              · rw [decide_eq_false q2, decide_eq_true (show y.to_ ≤ 65536 by omega)]; rfl
    · rw [decide_eq_false hi]; rfl

theorem x79 (k : Nat) (y : GItem) : F79 k y = some (y.kind == 4 && decide (y.value ≤ -10000)) := by
  unfold F79
  cases (y.kind == 4) <;> rfl

theorem e64 (k : Nat) (L : List GItem) (hk : L.length < k) : ∃ r s, F64 k L = some r ∧ F40 k L = some s ∧ (r != 0) = (s != 0) := by
  unfold F64 F40
  cases hc : decide ((L.length : Int) > 4096) with
  | true => exact ⟨130, 130, rfl, rfl, rfl⟩
  | false =>
    have hl : ¬ (L.length : Int) > 4096 := of_decide_eq_false hc
    obtain ⟨q, h1, h2⟩ := t64_l1 k L (by omega) k 0 0 (by omega) (by omega)
    have h1' : F64_l1 k L k 0 0 = some q := h1
    have h3' : F40_l1 k L k 0 0 = some q := (e64_l1 k L (by omega) k 0 0 (by omega)).trans h1
    rw [cond_false, cond_false, h1', h3']
    by_cases h0 : 0 < L.length
    · obtain ⟨y, hy⟩ := at_of (L := L) (i := (L.length : Int) - 1) (by omega) (by omega)
      have hb := fun {β : Type} (f : GItem → Option β) => bindI_eq (f := f) (by omega : 0 ≤ (L.length : Int) - 1) hy
      rw [decide_eq_true (show (L.length : Int) > 0 by omega), w_id (n := (L.length : Int) - 1) (by omega) (by omega)]
      simp only [hb, x79, cond_true, Option.bind_some]
      cases q with
      | inr n =>
        have hn : (n != 0) = true := by
          rw [bne_iff_ne]
          intro e
          subst e
          exact t64_no k L k 0 0 h1'
        cases (!(y.kind == 4 && decide (y.value ≤ -10000))) with
        | true => exact ⟨n, 1, rfl, rfl, hn⟩
        | false => exact ⟨n, n, rfl, rfl, rfl⟩
      | inl u =>
        have g := (h2 rfl) _ y (Nat.zero_le _) hy
        cases q4 : (y.kind == 4) with
        | false => exact ⟨1, 1, by simp [bne, q4], by simp, rfl⟩
        | true =>
          have hv := g.val (eq_of_beq q4)
          by_cases q5 : y.value = -10000
          · exact ⟨0, 0, by simp [bne, q4, q5], by simp [q5], rfl⟩
          · have q5' : (y.value == -10000) = false := by rw [beq_eq_false_iff_ne]; exact q5
            exact ⟨1, 1, by simp [bne, q4, q5'], by rw [decide_eq_false (show ¬ y.value ≤ -10000 by omega)]; rfl, rfl⟩
    · rw [decide_eq_false (show ¬ (L.length : Int) > 0 by omega)]
      cases q with
      | inr n => exact ⟨n, n, rfl, rfl, rfl⟩
      | inl u => exact ⟨0, 0, rfl, rfl, rfl⟩

end
end Go.Eng.Lift

namespace Go.Eng.Lift
open Go.Proofs
noncomputable section

def B95 (k : Nat) (b c s : Int) (g : Bool) : Option (Int × Int × Bool) :=
  Option.bind (α := Bool) (bif decide (s < 0) then (some (decide (s < (w (0 - c))))) else (some false)) fun (v4 : Bool) =>
  bif v4 then (some (10000, 0, true)) else (Option.bind (α := Bool) (bif s == 0 then (some true) else (Option.bind (α := Bool) (bif decide (s > 0) then (some g) else (some false)) fun (v6 : Bool) =>
  some v6)) fun (v5 : Bool) =>
  bif v5 then (some (0, 1, false)) else (bif decide (s < 0) then (bindD c ((F106 k (w (Int.tdiv (w (100 * (w (0 - s)))) c))).bind fun r19 =>
  bif decide ((w (Int.tdiv (w (100 * (w (0 - s)))) c)) > 50) then (some (r19, 0, false)) else (some (r19, 1, false)))) else (bif b == 0 then (some (10000, 3, false)) else (bindD b ((F106 k (if 1000 < w (Int.tdiv (w (100 * s)) b) then 1000 else w (Int.tdiv (w (100 * s)) b))).bind fun r24 =>
  bif decide ((if 1000 < w (Int.tdiv (w (100 * s)) b) then 1000 else w (Int.tdiv (w (100 * s)) b)) ≤ 50) then (some (r24, 1, false)) else (bif decide ((if 1000 < w (Int.tdiv (w (100 * s)) b) then 1000 else w (Int.tdiv (w (100 * s)) b)) ≤ 100) then (some (r24, 2, false)) else (some (r24, 3, false))))))))

theorem x95 (k : Nat) (v1 v7 a3 n b c s : Int) (f g : Bool) (u v : Int) : F95 k (GLine.mk v1 v7 a3 n b c s 0 0 false f g u v) = (B95 k b c s g).bind fun p => some (GLine.mk v1 v7 a3 n b c s p.1 p.2.1 p.2.2 f g u v) := rfl

theorem x106 (k : Nat) (x : Int) (h : 0 ≤ x) (h' : x ≤ 1000) : ∃ r, F106 k x = some r ∧ 0 ≤ r ∧ r ≤ 10000 := by
  unfold F106
  refine ⟨_, rfl, ?_⟩
  have a1 : 0 * 0 ≤ x * x := Int.mul_le_mul h h (by omega) (by omega)
  have a2 : x * x ≤ 1000 * 1000 := Int.mul_le_mul h' h' (by omega) (by omega)
  have a3 : 0 * 0 ≤ x * x * x := Int.mul_le_mul (by omega) h (by omega) (by omega)
  have a4 : x * x * x ≤ 1000000 * 1000 := Int.mul_le_mul (by omega) h' (by omega) (by omega)
  rw [w_id (n := x * x) (by omega) (by omega), w_id (n := x * x * x) (by omega) (by omega), Int.tdiv_eq_ediv_of_nonneg (by omega)]
  rw [w_id (n := x * x * x / 10000) (by omega) (by omega)]
  split <;> omega

theorem t95B (k : Nat) (b c s : Int) (g : Bool) (hs : 0 ≤ b) (hs' : b ≤ 274877906944) (hk : 0 ≤ c) (hk' : c ≤ 274877906944) (ht : -9007199254740992 ≤ s) (ht' : s ≤ 9007199254740992) :
    ∃ p q o, B95 k b c s g = some (p, q, o) ∧ (0 ≤ p ∧ p ≤ 10000 ∧ 0 ≤ q ∧ q ≤ 3) ∧ (o = true → s < 0 - c ∧ p = 10000 ∧ q = 0) ∧ (s < 0 - c → o = true) := by
  unfold B95
  rw [w_id (n := 0 - c) (by omega) (by omega), w_id (n := 0 - s) (by omega) (by omega)]
  by_cases h1 : s < 0
  · rw [decide_eq_true h1]
    by_cases h2 : s < 0 - c
    · rw [decide_eq_true h2]
      exact ⟨10000, 0, true, rfl, by omega, fun _ => ⟨h2, rfl, rfl⟩, fun _ => rfl⟩
    · rw [decide_eq_false h2]
      have h3 : (s == 0) = false := by rw [beq_eq_false_iff_ne]; omega
      have h4 : decide (s > 0) = false := decide_eq_false (by omega)
      rw [h3, h4]
      have d0 : 0 ≤ 100 * (0 - s) / c := Int.ediv_nonneg (by omega) (by omega)
      have d2 : 100 * (0 - s) / c < 101 := Int.ediv_lt_of_lt_mul (by omega) (by omega)
      rw [w_id (n := 100 * (0 - s)) (by omega) (by omega), Int.tdiv_eq_ediv_of_nonneg (by omega), w_id (n := 100 * (0 - s) / c) (by omega) (by omega)]
      obtain ⟨q, hq, q1, q2⟩ := x106 k (100 * (0 - s) / c) d0 (by omega)
      simp only [cond_true, cond_false, Option.bind_some, bindD, if_neg (show ¬ c = 0 by omega), hq]
      cases decide (100 * (0 - s) / c > 50)
      · exact ⟨q, 1, false, rfl, by omega, fun h => (by cases h), fun h => (by omega)⟩
      · exact ⟨q, 0, false, rfl, by omega, fun h => (by cases h), fun h => (by omega)⟩
  · rw [decide_eq_false h1]
    by_cases h3 : s = 0
    · have h3' : (s == 0) = true := by rw [h3]; rfl
      rw [h3']
      exact ⟨0, 1, false, rfl, by omega, fun h => (by cases h), fun h => (by omega)⟩
    · have h3' : (s == 0) = false := by rw [beq_eq_false_iff_ne]; exact h3
      rw [h3', decide_eq_true (show s > 0 by omega)]
      cases g with
      | true => exact ⟨0, 1, false, rfl, by omega, fun h => (by cases h), fun h => (by omega)⟩
      | false =>
      by_cases h4 : b = 0
      · have h4' : (b == 0) = true := by rw [h4]; rfl
        rw [h4']
        exact ⟨10000, 3, false, rfl, by omega, fun h => (by cases h), fun h => (by omega)⟩
      · have h4' : (b == 0) = false := by rw [beq_eq_false_iff_ne]; exact h4
        rw [h4']
        have d0 : 0 ≤ 100 * s / b := Int.ediv_nonneg (by omega) (by omega)
        have d1 : 100 * s / b ≤ 100 * s := Int.ediv_le_self _ (by omega)
        have ew : w (Int.tdiv (w (100 * s)) b) = 100 * s / b := by
          rw [w_id (n := 100 * s) (by omega) (by omega), Int.tdiv_eq_ediv_of_nonneg (by omega), w_id (by omega) (by omega)]
        rw [ew]
        generalize hd : (if 1000 < 100 * s / b then (1000 : Int) else 100 * s / b) = d
        obtain ⟨q, hq, q1, q2⟩ := x106 k d (by rw [← hd]; split <;> omega) (by rw [← hd]; split <;> omega)
        simp only [cond_true, cond_false, Option.bind_some, bindD, if_neg h4, hq]
        cases decide (d ≤ 50) with
        | true => exact ⟨q, 1, false, rfl, by omega, fun h => (by cases h), fun h => (by omega)⟩
        | false =>
          cases decide (d ≤ 100) with
          | true => exact ⟨q, 2, false, rfl, by omega, fun h => (by cases h), fun h => (by omega)⟩
          | false => exact ⟨q, 3, false, rfl, by omega, fun h => (by cases h), fun h => (by omega)⟩

/-- the line's last item -/
def tailOf (y : GItem) (n u v : Int) : Int × Bool × Bool × Int × Int :=
  bif y.kind == 4 then (w (n + y.width), y.flag, decide (y.value ≤ -10000), (bif y.flag then (if y.height > u then y.height else u) else u), (bif y.flag then (if y.depth > v then y.depth else v) else v)) else (n, false, false, u, v)

structure Core (k : Nat) (L : List GItem) (a2 a3 v1 v7 n b c u v : Int) (y : GItem) : Prop where
  lo : a2 + 1 ≤ v1
  mid : v1 ≤ v7
  hi : v7 ≤ a3
  first : v1 < v7 → ∃ z, L[v1.toNat]? = some z ∧ z.kind = 1
  last : v1 < v7 → ∃ z, L[(v7 - 1).toNat]? = some z ∧ z.kind = 1
  sum : F71_l3 k ((L.take v7.toNat).drop v1.toNat) k 0 0 0 0 0 0 = some (n, b, c, u, v)
  n1 : -4503599627370496 ≤ n
  n2 : n ≤ 4503599627370496
  b1 : 0 ≤ b
  b2 : b ≤ 274877906944
  c1 : 0 ≤ c
  c2 : c ≤ 274877906944
  at_ : L[a3.toNat]? = some y
  eq : ∀ a1, F71 k L a1 a2 a3 = F95 k (GLine.mk v1 v7 a3 (tailOf y n u v).1 b c (w (a1 - (tailOf y n u v).1)) 0 0 false (tailOf y n u v).2.1 (tailOf y n u v).2.2.1 (tailOf y n u v).2.2.2.1 (tailOf y n u v).2.2.2.2)

theorem first_l1 (k : Nat) (L : List GItem) (a3 : Int) (hl : L.length ≤ 4096) (h3 : a3 < L.length) : ∀ (j : Nat) (v r : Int), 0 ≤ v → v ≤ a3 → F71_l1 k L a3 j v = some r → r < a3 → ∃ z, L[r.toNat]? = some z ∧ z.kind = 1
  | 0, v, r, h0, h1, h, hr => by cases h
  | j + 1, v, r, h0, h1, h, hr => by
    unfold F71_l1 at h
    by_cases hv : v < a3
    · obtain ⟨y, hy⟩ := at_of (L := L) (i := v) (by omega) (by omega)
      rw [decide_eq_true hv, cond_true, bindI_eq (by omega) hy, Option.bind_some] at h
      cases hk : (y.kind != 1) with
      | false =>
        rw [hk] at h
        cases h
        exact ⟨y, hy, by simpa [bne] using hk⟩
      | true =>
        rw [hk, cond_true, w_id (n := v + 1) (by omega) (by omega)] at h
        exact first_l1 k L a3 hl h3 j (v + 1) r (by omega) (by omega) h hr
    · rw [decide_eq_false hv] at h
      cases h
      omega

theorem last_l2 (k : Nat) (L : List GItem) (v1 : Int) (hl : L.length ≤ 4096) (h0 : 0 ≤ v1) : ∀ (j : Nat) (v r : Int), v1 ≤ v → v ≤ L.length → F71_l2 k L v1 j v = some r → v1 < r → ∃ z, L[(r - 1).toNat]? = some z ∧ z.kind = 1
  | 0, v, r, h1, h3, h, hr => by cases h
  | j + 1, v, r, h1, h3, h, hr => by
    unfold F71_l2 at h
    by_cases hv : v > v1
    · obtain ⟨y, hy⟩ := at_of (L := L) (i := v - 1) (by omega) (by omega)
      rw [decide_eq_true hv, cond_true, w_id (n := v - 1) (by omega) (by omega), bindI_eq (by omega) hy, Option.bind_some] at h
      cases hk : (y.kind != 1) with
      | false =>
        rw [hk] at h
        cases h
        exact ⟨y, hy, by simpa [bne] using hk⟩
      | true =>
        rw [hk, cond_true] at h
        exact last_l2 k L v1 hl h0 j (v - 1) r (by omega) (by omega) h hr
    · rw [decide_eq_false hv] at h
      cases h
      omega

theorem core_of (k : Nat) (L : List GItem) (a2 a3 : Int) (hl : L.length ≤ 4096) (hk : L.length < k) (hf : ∀ (t : Nat) (y : GItem), L[t]? = some y → Fine y) (h2 : -1 ≤ a2) (h3 : a2 < a3) (h4 : a3 < L.length) :
    ∃ v1 v7 n b c u v y, Core k L a2 a3 v1 v7 n b c u v y := by
  obtain ⟨v1, e1, k1, k2⟩ := t71_l1 k L a3 hl h4 k (a2 + 1) (by omega) (by omega) (by omega)
  obtain ⟨v7, e2, k3, k4⟩ := t71_l2 k L v1 hl (by omega) k a3 (by omega) (by omega) (by omega)
  obtain ⟨a, b, c, d, e, e3, b1, b2, b3, b4, b5, b6⟩ := t71_l3 k ((L.take v7.toNat).drop v1.toNat) (by simp; omega) (fun t y hy => by
    rw [List.getElem?_drop, List.getElem?_take] at hy
    split at hy
    · exact hf _ y hy
    · cases hy) k 0 0 0 0 0 0 (by omega) (by simp; omega) (by omega) (by omega) (by omega) (by omega) (by omega) (by omega)
  have e3' : F71_l3 k ((L.take v7.toNat).drop v1.toNat) k 0 0 0 0 0 0 = some (a, b, c, d, e) := e3
  obtain ⟨y, hy⟩ := at_of (L := L) (i := a3) (by omega) h4
  refine ⟨v1, v7, a, b, c, d, e, y, k1, k3, k4, fun h => first_l1 k L a3 hl h4 k (a2 + 1) v1 (by omega) (by omega) e1 (by omega), fun h => last_l2 k L v1 hl (by omega) k a3 v7 (by omega) (by omega) e2 h, e3', b1, b2, b3, b4, b5, b6, hy, fun a1 => ?_⟩
  unfold F71
  rw [w_id (n := a2 + 1) (by omega) (by omega), e1, Option.bind_some, e2, Option.bind_some]
  unfold bindS
  rw [if_pos ⟨by omega, by omega, by omega⟩]
  dsimp only
  rw [e3', Option.bind_some]
  dsimp only
  rw [bindI_eq (by omega) hy]
  unfold tailOf
  have fin : ∀ x : Option GLine, (x.bind fun r51 => some r51) = x := fun x => by cases x <;> rfl
  cases q : (y.kind == 4) with
  | false => simp only [cond_false, Option.bind_some, fin]
  | true =>
    simp only [x70, q, Bool.true_and, cond_true, Option.bind_some]
    cases hy' : y.flag with
    | false => simp only [cond_false, Option.bind_some, fin]
    | true => simp only [cond_true, Option.bind_some, fin]

end
end Go.Eng.Lift

namespace Go.Eng.Lift
open Go.Proofs
noncomputable section

def zeroL : GLine := GLine.mk 0 0 0 0 0 0 0 0 0 false false false 0 0

structure Legal (k : Nat) (L : List GItem) (a1 a2 a3 : Int) : Prop where
  len : L.length ≤ 4096
  fine : ∀ (t : Nat) (y : GItem), L[t]? = some y → Fine y
  w1 : 1 ≤ a1
  w2 : a1 ≤ 536870912
  f1 : -1 ≤ a2
  f2 : a2 < a3
  f3 : a3 < L.length
  to_ : F68 k L a3 = some true
  from_ : a2 ≥ 0 → F68 k L a2 = some true
  free : F69_70 k ((L.take a3.toNat).drop (a2 + 1).toNat) = some false
  chk : F64 k L = some 0

theorem g34 (k : Nat) (L : List GItem) (a1 a2 a3 : Int) (h : Legal k L a1 a2 a3) : F34 k L a1 a2 a3 = (F71 k L a1 a2 a3).bind fun r => some (r, 0) := by
  have h1 := h.len; have h2 := h.w1; have h3 := h.w2; have h4 := h.f1; have h5 := h.f2; have h6 := h.f3
  unfold F34
  rw [h.chk, Option.bind_some, decide_eq_false (show ¬ a1 < 1 by omega), decide_eq_false (show ¬ a1 > 536870912 by omega), decide_eq_false (show ¬ a2 < -1 by omega), decide_eq_false (show ¬ a2 ≥ a3 by omega), decide_eq_false (show ¬ a3 ≥ L.length by omega), h.to_, w_id (n := a2 + 1) (by omega) (by omega)]
  unfold bindS
  rw [if_pos ⟨by omega, by omega, by omega⟩]
  dsimp only
  rw [h.free]
  by_cases h7 : a2 ≥ 0
  · rw [decide_eq_true h7, h.from_ h7]; rfl
  · rw [decide_eq_false h7]; rfl

theorem s34 (k : Nat) (L : List GItem) (a1 a2 a3 : Int) (hk : L.length < k) : F34 k L a1 a2 a3 = some (zeroL, 1) ∨ Legal k L a1 a2 a3 := by
  obtain ⟨r, hr, hg⟩ := t64 k L hk
  by_cases h0 : r = 0
  · subst h0
    obtain ⟨hl, g⟩ := hg rfl
    have hf : ∀ (t : Nat) (y : GItem), L[t]? = some y → Fine y := fun t y hy => fine_of g hy
    by_cases h1 : a1 < 1
    · left; unfold F34; rw [hr, Option.bind_some, decide_eq_true h1]; rfl
    by_cases h2 : a1 > 536870912
    · left; unfold F34; rw [hr, Option.bind_some, decide_eq_false h1, decide_eq_true h2]; rfl
    by_cases h3 : a2 < -1
    · left; unfold F34; rw [hr, Option.bind_some, decide_eq_false h1, decide_eq_false h2, decide_eq_true h3]; rfl
    by_cases h4 : a2 ≥ a3
    · left; unfold F34; rw [hr, Option.bind_some, decide_eq_false h1, decide_eq_false h2, decide_eq_false h3, decide_eq_true h4]; rfl
    by_cases h5 : a3 ≥ L.length
    · left; unfold F34; rw [hr, Option.bind_some, decide_eq_false h1, decide_eq_false h2, decide_eq_false h3, decide_eq_false h4, decide_eq_true h5]; rfl
    obtain ⟨b, hb⟩ := t68 k L a3 (by omega) (by omega) hl
    cases b with
    | false => left; unfold F34; rw [hr, Option.bind_some, decide_eq_false h1, decide_eq_false h2, decide_eq_false h3, decide_eq_false h4, decide_eq_false h5, hb]; rfl
    | true =>
      obtain ⟨q, hq⟩ := t69 k ((L.take a3.toNat).drop (a2 + 1).toNat) (by simp; omega) (by simp; omega)
      have fin : (a2 ≥ 0 → F68 k L a2 = some true) → (F34 k L a1 a2 a3 = some (zeroL, 1) ∨ Legal k L a1 a2 a3) := by
        intro hc
        cases q with
        | false => exact .inr ⟨hl, hf, by omega, by omega, by omega, by omega, by omega, hb, hc, hq, hr⟩
        | true =>
          left
          unfold F34
          rw [hr, Option.bind_some, decide_eq_false h1, decide_eq_false h2, decide_eq_false h3, decide_eq_false h4, decide_eq_false h5, hb, w_id (n := a2 + 1) (by omega) (by omega)]
          unfold bindS
          rw [if_pos ⟨by omega, by omega, by omega⟩]
          dsimp only
          rw [hq]
          by_cases h7 : a2 ≥ 0
          · rw [decide_eq_true h7, hc h7]; rfl
          · rw [decide_eq_false h7]; rfl
      by_cases h6 : a2 ≥ 0
      · obtain ⟨c, hc⟩ := t68 k L a2 (by omega) (by omega) hl
        cases c with
        | true => exact fin fun _ => hc
        | false => left; unfold F34; rw [hr, Option.bind_some, decide_eq_false h1, decide_eq_false h2, decide_eq_false h3, decide_eq_false h4, decide_eq_false h5, hb, decide_eq_true h6, hc]; rfl
      · exact fin fun h => absurd h h6
  · left
    have h0' : (r != 0) = true := by rw [bne_iff_ne]; exact h0
    unfold F34
    rw [hr, Option.bind_some, h0']; rfl

/-- no forced break: place by place -/
theorem free_l1 (k : Nat) (L : List GItem) (hl : L.length ≤ 4096) : ∀ (j i : Nat), i ≤ L.length → L.length < j + i → (∀ (t : Nat) (y : GItem), i ≤ t → L[t]? = some y → (y.kind == 4 && decide (y.value ≤ -10000)) = false) → F94_70_l1 k L j i = some (.inl ())
  | 0, i, h1, h2, h => by omega
  | j + 1, i, h1, h2, h => by
    unfold F94_70_l1
    by_cases hi : (i : Int) < L.length
    · obtain ⟨y, hy⟩ := at_of (L := L) (i := (i : Int)) (by omega) hi
      rw [decide_eq_true hi, cond_true, bindI_eq (by omega) hy, x70, h (i : Int).toNat y (by omega) hy, Option.bind_some, cond_false, w_id (n := (i : Int) + 1) (by omega) (by omega)]
      exact free_l1 k L hl j (i + 1) (by omega) (by omega) fun t y ht => h t y (by omega)
    · rw [decide_eq_false hi]; rfl

theorem unfree_l1 (k : Nat) (L : List GItem) (hl : L.length ≤ 4096) : ∀ (j i : Nat), F94_70_l1 k L j i = some (.inl ()) → ∀ (t : Nat) (y : GItem), i ≤ t → L[t]? = some y → (y.kind == 4 && decide (y.value ≤ -10000)) = false
  | 0, i, h, t, y, ht, hy => by cases h
  | j + 1, i, h, t, y, ht, hy => by
    have htl := lt_of_get hy
    unfold F94_70_l1 at h
    obtain ⟨z, hz⟩ := at_of (L := L) (i := (i : Int)) (by omega) (by omega)
    rw [decide_eq_true (show (i : Int) < L.length by omega), cond_true, bindI_eq (by omega) hz, x70, Option.bind_some, w_id (n := (i : Int) + 1) (by omega) (by omega)] at h
    cases hq : (z.kind == 4 && decide (z.value ≤ -10000)) with
    | true => rw [hq] at h; cases h
    | false =>
      rw [hq, cond_false] at h
      by_cases hti : t = i
      · subst hti
        rw [show (t : Int).toNat = t by omega] at hz
        rw [hy] at hz; cases hz; exact hq
      · exact unfree_l1 k L hl j (i + 1) h t y (by omega) hy

theorem no_inr (k : Nat) (L : List GItem) : ∀ (j : Nat) (i n : Int), 0 ≤ i → i + j < 9223372036854775807 → F94_70_l1 k L j i = some (.inr n) → 0 ≤ n
  | 0, i, n, h0, hb, h => by cases h
  | j + 1, i, n, h0, hb, h => by
    unfold F94_70_l1 at h
    cases hc : decide (i < (L.length : Int)) with
    | false => rw [hc] at h; cases h
    | true =>
      rw [hc, cond_true] at h
      obtain ⟨y, _, _, h⟩ := bindI_some h
      obtain ⟨b, _, h⟩ := bind_some h
      cases b with
      | true => cases h; exact h0
      | false =>
        rw [cond_false, w_id (n := i + 1) (by omega) (by omega)] at h
        exact no_inr k L j (i + 1) n (by omega) (by omega) h

theorem free_of (k : Nat) (L : List GItem) (hl : L.length ≤ 4096) (hk : L.length < k) (h : ∀ (t : Nat) (y : GItem), L[t]? = some y → (y.kind == 4 && decide (y.value ≤ -10000)) = false) : F69_70 k L = some false := by
  unfold F69_70 F94_70
  have := free_l1 k L hl k 0 (by omega) (by omega) fun t y _ => h t y
  have h' : F94_70_l1 k L k 0 = some (.inl ()) := this
  rw [h']; rfl

theorem unfree (k : Nat) (L : List GItem) (hl : L.length ≤ 4096) (hk : (k : Int) < 9223372036854775807) (h : F69_70 k L = some false) : ∀ (t : Nat) (y : GItem), L[t]? = some y → (y.kind == 4 && decide (y.value ≤ -10000)) = false := by
  unfold F69_70 F94_70 at h
  obtain ⟨r, hr, h⟩ := bind_some h
  obtain ⟨q, hq, hr⟩ := bind_some hr
  cases q with
  | inl u => exact fun t y hy => unfree_l1 k L hl k 0 hq t y (by omega) hy
  | inr n =>
    have := no_inr k L k 0 n (by omega) (by omega) hq
    have e : some n = some r := hr
    cases e
    have h' : some (decide (r ≥ 0)) = some false := h
    rw [decide_eq_true this] at h'
    cases h'

end
end Go.Eng.Lift

namespace Go.Eng.Lift
open Go.Proofs
noncomputable section

theorem core_eq (k : Nat) (L : List GItem) (a2 a3 v1 v7 n b c u v : Int) (y : GItem) (hl : L.length ≤ 4096) (h2 : -1 ≤ a2) (h3 : a2 < a3) (h4 : a3 < L.length) (k1 : a2 + 1 ≤ v1) (k3 : v1 ≤ v7) (k4 : v7 ≤ a3)
    (e1 : F71_l1 k L a3 k (a2 + 1) = some v1) (e2 : F71_l2 k L v1 k a3 = some v7) (e3 : F71_l3 k ((L.take v7.toNat).drop v1.toNat) k 0 0 0 0 0 0 = some (n, b, c, u, v)) (hy : L[a3.toNat]? = some y) (a1 : Int) :
    F71 k L a1 a2 a3 = F95 k (GLine.mk v1 v7 a3 (tailOf y n u v).1 b c (w (a1 - (tailOf y n u v).1)) 0 0 false (tailOf y n u v).2.1 (tailOf y n u v).2.2.1 (tailOf y n u v).2.2.2.1 (tailOf y n u v).2.2.2.2) := by
  unfold F71
  rw [w_id (n := a2 + 1) (by omega) (by omega), e1, Option.bind_some, e2, Option.bind_some]
  unfold bindS
  rw [if_pos ⟨by omega, by omega, by omega⟩]
  dsimp only
  rw [e3, Option.bind_some]
  dsimp only
  rw [bindI_eq (by omega) hy]
  unfold tailOf
  have fin : ∀ x : Option GLine, (x.bind fun r51 => some r51) = x := fun x => by cases x <;> rfl
  cases q : (y.kind == 4) with
  | false => simp only [cond_false, Option.bind_some, fin]
  | true =>
    simp only [x70, q, Bool.true_and, cond_true, Option.bind_some]
    cases hy' : y.flag with
    | false => simp only [cond_false, Option.bind_some, fin]
    | true => simp only [cond_true, Option.bind_some, fin]

/-- a line's items by themselves: the same sums -/
theorem own_eq (k : Nat) (L M : List GItem) (a2 a3 v1 v7 n b c u v : Int) (y y' : GItem) (hl : L.length ≤ 4096) (hlM : M.length ≤ 4096) (h4 : a3 < L.length) (h2 : -1 ≤ a2) (hk : 0 < k) (hc : Core k L a2 a3 v1 v7 n b c u v y) (hM : M.take (v7 - v1).toNat = (L.take v7.toNat).drop v1.toNat) (hlen : v7 - v1 < M.length) (hy : M[(v7 - v1).toNat]? = some y')
    (a1 : Int) : F71 k M a1 (-1) (v7 - v1) = F95 k (GLine.mk 0 (v7 - v1) (v7 - v1) (tailOf y' n u v).1 b c (w (a1 - (tailOf y' n u v).1)) 0 0 false (tailOf y' n u v).2.1 (tailOf y' n u v).2.2.1 (tailOf y' n u v).2.2.2.1 (tailOf y' n u v).2.2.2.2) := by
  have h5 := hc.lo; have h6 := hc.mid; have h7 := hc.hi
  obtain ⟨j, rfl⟩ : ∃ j, k = j + 1 := ⟨k - 1, by omega⟩
  have at' : ∀ (t : Nat), t < (v7 - v1).toNat → M[t]? = L[v1.toNat + t]? := by
    intro t ht
    have := congrArg (fun l => l[t]?) hM
    simp only [List.getElem?_take, List.getElem?_drop] at this
    rw [if_pos ht, if_pos (by omega)] at this
    exact this
  refine core_eq (j + 1) M (-1) (v7 - v1) 0 (v7 - v1) n b c u v y' hlM (by omega) (by omega) hlen (by omega) (by omega) (by omega) ?_ ?_ ?_ hy a1
  · show F71_l1 (j + 1) M (v7 - v1) (j + 1) 0 = some 0
    unfold F71_l1
    by_cases h : v1 < v7
    · obtain ⟨z, hz, hz'⟩ := hc.first h
      have : M[(0 : Int).toNat]? = some z := by
        show M[0]? = some z
        rw [at' 0 (by omega)]; exact hz
      rw [decide_eq_true (show (0 : Int) < v7 - v1 by omega), cond_true, bindI_eq (by omega) this, hz']
      rfl
    · rw [decide_eq_false (show ¬ (0 : Int) < v7 - v1 by omega)]; rfl
  · unfold F71_l2
    by_cases h : v1 < v7
    · obtain ⟨z, hz, hz'⟩ := hc.last h
      have : M[(v7 - v1 - 1).toNat]? = some z := by
        rw [at' _ (by omega), show v1.toNat + (v7 - v1 - 1).toNat = (v7 - 1).toNat by omega]; exact hz
      rw [decide_eq_true (show v7 - v1 > 0 by omega), cond_true, w_id (n := v7 - v1 - 1) (by omega) (by omega), bindI_eq (by omega) this, hz']
      rfl
    · rw [decide_eq_false (show ¬ v7 - v1 > 0 by omega)]; rfl
  · rw [hM]
    exact hc.sum

end
end Go.Eng.Lift

namespace Go.Eng.Lift
open Go.Proofs
noncomputable section

/-- the line's own items, with an end behind them -/
def lastOf (y : GItem) : GItem := bif y.kind == 3 then GItem.mk 4 ByteArray.empty 0 0 0 0 0 0 0 0 false y.from_ y.to_ else y
def ownOf (S : List GItem) (y : GItem) (g : Bool) : List GItem := bif !g then (S ++ [lastOf y]) ++ [GItem.mk 4 ByteArray.empty 0 0 0 0 0 0 0 (-10000) false y.to_ y.to_] else S ++ [lastOf y]

theorem tail_last (y : GItem) (n u v : Int) (h1 : -4503599627370496 ≤ n) (h2 : n ≤ 4503599627370496) (hk : (y.kind == 3) = true ∨ (y.kind == 4) = true) : tailOf (lastOf y) n u v = tailOf y n u v := by
  unfold lastOf
  cases q : (y.kind == 3) with
  | true =>
    have e : y.kind = 3 := eq_of_beq q
    have e4 : (y.kind == 4) = false := by rw [e]; rfl
    unfold tailOf
    rw [e4, cond_true, cond_false]
    show (w (n + 0), false, decide ((0 : Int) ≤ -10000), u, v) = _
    rw [w_id (n := n + 0) (by omega) (by omega), Int.add_zero]; rfl
  | false => rfl

theorem kind_of68 (k : Nat) (L : List GItem) (i : Int) (y : GItem) (h0 : 0 ≤ i) (hy : L[i.toNat]? = some y) (h : F68 k L i = some true) : (y.kind == 3) = true ∨ ((y.kind == 4) = true ∧ y.value < 10000) := by
  unfold F68 at h
  rw [bindI_eq h0 hy] at h
  cases q : (y.kind == 3) with
  | true => exact .inl rfl
  | false =>
    rw [q, cond_false] at h
    cases q4 : (y.kind == 4) with
    | false => rw [q4] at h; cases h
    | true =>
      rw [q4, cond_true, bindI_eq h0 hy] at h
      exact .inr ⟨rfl, of_decide_eq_true (Option.some.inj h)⟩

theorem f68_last (k : Nat) (M : List GItem) (i : Int) (y : GItem) (h0 : 0 ≤ i) (hy : M[i.toNat]? = some (lastOf y)) (h : (y.kind == 3) = true ∨ ((y.kind == 4) = true ∧ y.value < 10000)) : F68 k M i = some true := by
  unfold F68
  rw [bindI_eq h0 hy, bindI_eq h0 hy]
  rcases h with h | ⟨h, h'⟩
  · unfold lastOf
    rw [h]; rfl
  · have e : y.kind = 4 := eq_of_beq h
    have e3 : (y.kind == 3) = false := by rw [e]; rfl
    unfold lastOf
    rw [e3, cond_false, e3, h, decide_eq_true h']; rfl

theorem tail_le (y : GItem) (n u v : Int) (hf : Fine y) (h1 : -4503599627370496 ≤ n) (h2 : n ≤ 4503599627370496) : -4503599627370496 ≤ (tailOf y n u v).1 ∧ (tailOf y n u v).1 ≤ 4504699139000000 := by
  unfold tailOf
  cases q : (y.kind == 4) with
  | false => rw [cond_false]; exact ⟨h1, by show n ≤ _; omega⟩
  | true =>
    have := hf.pen (eq_of_beq q)
    rw [cond_true]
    show _ ≤ w (n + y.width) ∧ w (n + y.width) ≤ _
    rw [w_id (by omega) (by omega)]
    omega

theorem bindA_eq {α β : Type} {n : Nat} {L M : List α} {f : List α → Option β} (h : (2 * (L.length + M.length) + 1024) * n ≤ 281474976710656) : bindA n L M f = f (L ++ M) := if_pos h

theorem hlast (y : GItem) {β : Type} (f : Int × ByteArray × Int × Int × Int × Int × Int × Int × Int × Int × Bool → Option β) : Option.bind (bif y.kind == 3 then (some (4, ByteArray.empty, 0, 0, 0, 0, 0, 0, 0, 0, false)) else (some (y.kind, y.font, y.size, y.rune, y.width, y.height, y.depth, y.stretch, y.shrink, y.value, y.flag))) f =
    f ((lastOf y).kind, (lastOf y).font, (lastOf y).size, (lastOf y).rune, (lastOf y).width, (lastOf y).height, (lastOf y).depth, (lastOf y).stretch, (lastOf y).shrink, (lastOf y).value, (lastOf y).flag) := by
  unfold lastOf
  cases (y.kind == 3) <;> rfl
theorem mk_last (y : GItem) : GItem.mk (lastOf y).kind (lastOf y).font (lastOf y).size (lastOf y).rune (lastOf y).width (lastOf y).height (lastOf y).depth (lastOf y).stretch (lastOf y).shrink (lastOf y).value (lastOf y).flag y.from_ y.to_ = lastOf y := by
  unfold lastOf
  cases (y.kind == 3) <;> rfl
theorem hown (S : List GItem) (y : GItem) (g : Bool) (h : S.length ≤ 4096) {β : Type} (f : List GItem → Option β) : Option.bind (α := List GItem) (bif !g then (bindA 112 (S ++ [lastOf y]) ([(GItem.mk 4 ByteArray.empty 0 0 0 0 0 0 0 (-10000) false y.to_ y.to_)]) fun l40 => some l40) else (some (S ++ [lastOf y]))) f = f (ownOf S y g) := by
  unfold ownOf
  cases g with
  | true => rfl
  | false =>
    rw [Bool.not_false, cond_true, cond_true, bindA_eq (by simp; omega)]
    rfl
theorem own_len (S : List GItem) (y : GItem) (g : Bool) : S.length + 1 ≤ (ownOf S y g).length ∧ (ownOf S y g).length ≤ S.length + 2 := by
  unfold ownOf
  cases g <;> simp
theorem own_take (S : List GItem) (y : GItem) (g : Bool) (m : Nat) (h : m = S.length) : (ownOf S y g).take m = S ∧ (ownOf S y g)[m]? = some (lastOf y) := by
  subst h
  unfold ownOf
  cases g <;> simp

set_option maxHeartbeats 1000000 in
/-- **What LineWider computes is true.** -/
theorem t13 (L : List GItem) (a1 a2 a3 a4 : Int) (hl : (L.length : Int) < 9223372036854775808) : F13 (L.length + 4) L a1 a2 a3 a4 = some true := by
  generalize hk : L.length + 4 = k
  unfold F13
  obtain ⟨b, hb, hb'⟩ := t27 k L (by omega) (by omega)
  rw [hb, Option.bind_some]
  cases b with
  | true => rfl
  | false =>
  have hn := hb' rfl
  rw [cond_false]
  rcases s34 k L a1 a3 a4 (by omega) with h | lg
  · rw [h]; rfl
  obtain ⟨v1, v7, n, b, c, u, v, y, hc⟩ := core_of k L a3 a4 lg.len (by omega) lg.fine lg.f1 lg.f2 lg.f3
  have l1 := lg.len; have l2 := lg.w1; have l3 := lg.w2; have l4 := lg.f1; have l5 := lg.f2; have l6 := lg.f3
  have m1 := hc.lo; have m2 := hc.mid; have m3 := hc.hi; have m4 := hc.n1; have m5 := hc.n2; have m6 := hc.b1; have m7 := hc.b2; have m8 := hc.c1; have m9 := hc.c2
  have hy := hc.at_
  obtain ⟨t1, t2⟩ := tail_le y n u v (lg.fine _ y hy) m4 m5
  have hkind := kind_of68 k L a4 y (by omega) hy lg.to_
  have hkind' : (y.kind == 3) = true ∨ (y.kind == 4) = true := hkind.imp id (·.1)
  have htl := tail_last y n u v m4 m5 hkind'
  obtain ⟨p, q, o, hB, ⟨p1, p2, p3, p4⟩, ho, ho'⟩ := t95B k b c (a1 - (tailOf y n u v).1) (tailOf y n u v).2.2.1 m6 m7 m8 m9 (by omega) (by omega)
  rw [g34 k L a1 a3 a4 lg, hc.eq a1, x95, w_id (n := a1 - (tailOf y n u v).1) (by omega) (by omega), hB]
  generalize hN : (tailOf y n u v).1 = N at *
  generalize hF : (tailOf y n u v).2.1 = f at *
  generalize hG : (tailOf y n u v).2.2.1 = g at *
  generalize hU : (tailOf y n u v).2.2.2.1 = u' at *
  generalize hV : (tailOf y n u v).2.2.2.2 = v' at *
  simp only [Option.bind_some, cond_false, bne_self_eq_false]
  rw [decide_eq_false (show ¬ a4 < 0 by omega), decide_eq_false (show ¬ a4 ≥ L.length by omega), decide_eq_false (show ¬ v1 < 0 by omega), decide_eq_false (show ¬ v1 > v7 by omega), decide_eq_false (show ¬ v7 > a4 by omega)]
  simp only [Option.bind_some, cond_false]
  by_cases q1 : a2 < 0
  · rw [decide_eq_true q1]; rfl
  rw [decide_eq_false q1]
  by_cases q2 : a2 > 536870912
  · rw [decide_eq_true q2]; rfl
  rw [decide_eq_false q2]
  rw [w_id (n := a1 + a2) (by omega) (by omega)]
  by_cases q3 : a1 + a2 > 536870912
  · rw [decide_eq_true q3]; rfl
  rw [decide_eq_false q3]
  have lg2 : Legal k L (a1 + a2) a3 a4 := ⟨lg.len, lg.fine, by omega, by omega, lg.f1, lg.f2, lg.f3, lg.to_, lg.from_, lg.free, lg.chk⟩
  obtain ⟨p', q', o', hB', _, hoo, _⟩ := t95B k b c (a1 + a2 - N) g m6 m7 m8 m9 (by omega) (by omega)
  have eq2 := hc.eq (a1 + a2)
  rw [hN, hF, hG, hU, hV, x95, w_id (n := a1 + a2 - N) (by omega) (by omega), hB'] at eq2
  rw [g34 k L (a1 + a2) a3 a4 lg2, eq2]
  simp only [Option.bind_some, cond_false, bne_self_eq_false]
  rw [w_id (n := a1 - N + a2) (by omega) (by omega), show a1 + a2 - N = a1 - N + a2 by omega]
  simp only [Option.bind_some, cond_false, bne_self_eq_false]
  have hoo' : o' = true → o = true := fun h => ho' (by have := (hoo h).1; omega)
  have hS : ((L.take v7.toNat).drop v1.toNat).length = v7.toNat - v1.toNat := by simp; omega
  have bs : ∀ (x : Option Bool), (x.bind fun v => some v) = x := fun x => by cases x <;> rfl
  have step : ∀ (X : Option Bool), X = some true → (Option.bind (α := Bool) (bif o' then (bif !o then (some true) else (some false)) else (some false)) fun (v7 : Bool) => bif v7 then (some false) else X) = some true := by
    intro X hX
    cases ho1 : o' with
    | true => rw [hoo' ho1]; exact hX
    | false => exact hX
  have stepB : ∀ (X : Option Bool), X = some true → (Option.bind (α := Bool) (bif o then (bif p != 10000 then (some true) else (some (q != 0))) else (some false)) fun (v18 : Bool) => bif v18 then (some false) else X) = some true := by
    intro X hX
    cases ho1 : o with
    | true => rw [(ho ho1).2.1, (ho ho1).2.2]; exact hX
    | false => exact hX
  simp only [bs]
  refine step _ ?_
  rw [decide_eq_false (show ¬ p < 0 by omega), decide_eq_false (show ¬ p > 10000 by omega), decide_eq_false (show ¬ q < 0 by omega), decide_eq_false (show ¬ q > 3 by omega)]
  simp only [cond_false]
  refine stepB _ ?_
  unfold bindS
  rw [if_pos ⟨by omega, by omega, by omega⟩]
  try dsimp only
  rw [bindA_eq (by rw [hS]; simp only [List.length_nil]; omega)]
  try dsimp only
  rw [bindI_eq (by omega) hy]
  rw [List.nil_append]
  generalize hSS : (L.take v7.toNat).drop v1.toNat = S at *
  rw [hlast]
  try dsimp only
  rw [mk_last, bindA_eq (by simp only [List.length_cons, List.length_nil]; omega), hown S y g (by omega)]
  obtain ⟨z1, z2⟩ := own_len S y g
  obtain ⟨z3, z4⟩ := own_take S y g (v7 - v1).toNat (by omega)
  generalize hO : ownOf S y g = own at *
  obtain ⟨r, s, hr, hs, hrs⟩ := e64 k own (by omega)
  by_cases h0 : r = 0
  · subst h0
    obtain ⟨r', hr', hg'⟩ := t64 k own (by omega)
    rw [hr] at hr'
    cases hr'
    obtain ⟨oL, oG⟩ := hg' rfl
    have hsub : ∀ (t : Nat) (x : GItem), S[t]? = some x → (x.kind == 4 && decide (x.value ≤ -10000)) = false := by
      intro t x hx
      have un := unfree k ((L.take a4.toNat).drop (a3 + 1).toNat) (by simp; omega) (by omega) lg.free
      have htl' := lt_of_get hx
      rw [← hSS, List.getElem?_drop, List.getElem?_take] at hx
      split at hx
      · rename_i hlt
        refine un (v1.toNat + t - (a3 + 1).toNat) x ?_
        rw [List.getElem?_drop, List.getElem?_take, if_pos (by omega), show (a3 + 1).toNat + (v1.toNat + t - (a3 + 1).toNat) = v1.toNat + t by omega]
        exact hx
      · cases hx
    have lo : Legal k own a1 (-1) (v7 - v1) := by
      refine ⟨oL, fun t x hx => fine_of oG hx, l2, l3, by omega, by omega, by omega, f68_last k own _ y (by omega) z4 hkind, fun h => by omega, ?_, hr⟩
      show F69_70 k ((own.take (v7 - v1).toNat).drop 0) = some false
      rw [z3, List.drop_zero]
      exact free_of k S (by omega) (by omega) hsub
    have oe := own_eq k L own a3 a4 v1 v7 n b c u v y (lastOf y) l1 oL l6 l4 (by omega) hc (by rw [z3, hSS]) (by omega) z4 a1
    rw [htl, hN, hF, hG, hU, hV, x95, w_id (n := a1 - N) (by omega) (by omega), hB] at oe
    rw [w_id (n := v7 - v1) (by omega) (by omega), g34 k own a1 (-1) (v7 - v1) lo, oe]
    simp only [Option.bind_some, cond_false, cond_true, bne_self_eq_false, beq_self_eq_true]
  · have h0' : (r != 0) = true := by rw [bne_iff_ne]; exact h0
    have : F34 k own a1 (-1) (w (v7 - v1)) = some (zeroL, 1) := by
      unfold F34
      rw [hr, Option.bind_some, h0']; rfl
    rw [this, hs]
    show some (s != 0) = some true
    rw [← hrs, h0']

end
end Go.Eng.Lift
