/-
  Layer 14: LineWays, the plain law: what is computed answers true. (With what LineTells and LineWider proved of the same functions.)
-/
import Derived.Test.YtjobmgleekphjaaX11b
set_option linter.unusedVariables false
set_option linter.unusedSimpArgs false
namespace Go.Eng.Lift
open Go.Proofs
noncomputable section


theorem w_id {n : Int} (h1 : -9223372036854775808 ≤ n) (h2 : n < 9223372036854775808) : w n = n := by
  unfold w
  first | (rw [wrap64]; omega) | (simp [IntKind.wrap, IntKind.signed, IntKind.bits]; omega)
theorem w_ge (n : Int) : -9223372036854775808 ≤ w n := by
  unfold w
  first | (rw [wrap64]; omega) | (simp [IntKind.wrap, IntKind.signed, IntKind.bits]; omega)
theorem w_lt (n : Int) : w n < 9223372036854775808 := by
  unfold w
  first | (rw [wrap64]; omega) | (simp [IntKind.wrap, IntKind.signed, IntKind.bits]; omega)

theorem bindI_eq {α β : Type} {L : List α} {i : Int} {f : α → Option β} {y : α} (h : 0 ≤ i) (hy : L[i.toNat]? = some y) : bindI L i f = f y := by
  unfold bindI
  rw [if_pos h, hy]; rfl
theorem at_of {α : Type} {L : List α} {i : Int} (h : 0 ≤ i) (h2 : i < L.length) : ∃ y, L[i.toNat]? = some y := ⟨_, List.getElem?_eq_getElem (by omega)⟩

theorem t92 (k : Nat) (a b c : Int) : F92 k a b c = some (decide (b ≤ a) && decide (a ≤ c)) := by
  unfold F92
  cases decide (b ≤ a) <;> rfl

theorem t104 (k : Nat) (x : GItem) : ∃ r, F104 k x = some r ∧ (r = true → 0 ≤ x.width ∧ x.width ≤ 1099511627776) := by
  unfold F104
  simp only [t92, Option.bind_some]
  cases h1 : (decide (1 ≤ x.size) && decide (x.size ≤ 67108864)) with
  | false => exact ⟨false, rfl, fun h => by cases h⟩
  | true =>
    cases h2 : (decide (0 ≤ x.width) && decide (x.width ≤ 1099511627776)) with
    | false => exact ⟨false, rfl, fun h => by cases h⟩
    | true =>
      have h3 : 0 ≤ x.width ∧ x.width ≤ 1099511627776 := by simpa using h2
      cases h4 : (decide (0 ≤ x.height) && decide (x.height ≤ 1099511627776)) with
      | false => exact ⟨false, rfl, fun h => by cases h⟩
      | true => exact ⟨_, rfl, fun _ => h3⟩

theorem t110 (k : Nat) (a : Int) : ∃ r, F110 k a = some r := by
  unfold F110
  cases decide (a < 0) with
  | true => exact ⟨_, rfl⟩
  | false =>
  cases decide (a ≤ 127) with
  | true => exact ⟨_, rfl⟩
  | false =>
  cases decide (a ≤ 2047) with
  | true => exact ⟨_, rfl⟩
  | false =>
  cases decide (55296 ≤ a) <;> cases decide (a ≤ 57343) <;> cases decide (a ≤ 65535) <;> cases decide (a ≤ 1114111) <;> exact ⟨_, rfl⟩
theorem t105 (k : Nat) (a : Int) : ∃ r, F105 k a = some r := by
  unfold F105
  obtain ⟨r, hr⟩ := t110 k (w_i32 a)
  rw [hr]
  cases decide (a < 0) <;> simp only [cond_true, cond_false, Option.bind_some]
  · cases decide (a > 1114111) <;> simp only [cond_true, cond_false, Option.bind_some]
    · cases decide (a ≥ 55296) <;> simp only [cond_true, cond_false, Option.bind_some]
      · exact ⟨_, rfl⟩
      · cases decide (a ≤ 57343) <;> exact ⟨_, rfl⟩
    · exact ⟨_, rfl⟩
  · exact ⟨_, rfl⟩


/-- what the check tells of an item -/
structure Good (a b c : GItem) : Prop where
  box : a.kind = 1 → 0 ≤ a.width ∧ a.width ≤ 1099511627776
  kern : a.kind = 2 → b.kind = 1 ∧ c.kind = 1 ∧ w (0 - (if c.width < b.width then c.width else b.width)) ≤ a.width ∧ a.width ≤ 1099511627776
  glue : a.kind = 3 → (0 ≤ a.width ∧ a.width ≤ 67108864) ∧ (0 ≤ a.stretch ∧ a.stretch ≤ 67108864) ∧ 0 ≤ a.shrink ∧ a.shrink ≤ a.width
  pen : a.kind = 4 → 0 ≤ a.width ∧ a.width ≤ 1099511627776
  val : a.kind = 4 → -10000 ≤ a.value

theorem fin91 {b : Bool} {x : Bool} : ∃ r, (Option.bind (α := Bool) (bif b then some x else some false) fun v => some v) = some r ∧ (r = true → b = true) := by
  cases b
  · exact ⟨false, rfl, fun h => by cases h⟩
  · exact ⟨x, rfl, fun _ => rfl⟩

theorem t91 (k : Nat) (a b c : GItem) : ∃ r, F91 k a b c = some r ∧ (r = true → Good a b c) := by
  obtain ⟨q, hq, hq'⟩ := t104 k a
  obtain ⟨u, hu⟩ := t105 k a.rune
  unfold F91
  simp only [t92, hq, hu, Option.bind_some]
  cases h1 : (a.kind == 1) with
  | true =>
    have e : a.kind = 1 := eq_of_beq h1
    cases q with
    | false => exact ⟨false, rfl, fun h => by cases h⟩
    | true =>
      have := hq' rfl
      have g : Good a b c := ⟨fun _ => this, fun h => by omega, fun h => by omega, fun h => by omega, fun h => by omega⟩
      cases decide (u > 0) with
      | false => exact ⟨false, rfl, fun h => by cases h⟩
      | true => exact ⟨_, rfl, fun _ => g⟩
  | false =>
  cases h2 : (a.kind == 2) with
  | true =>
    have e : a.kind = 2 := eq_of_beq h2
    cases h3 : (b.kind == 1) with
    | false => exact ⟨false, rfl, fun h => by cases h⟩
    | true =>
    cases h4 : (c.kind == 1) with
    | false => exact ⟨false, rfl, fun h => by cases h⟩
    | true =>
    cases h5 : (a.width != 0) with
    | false => exact ⟨false, rfl, fun h => by cases h⟩
    | true =>
    cases h6 : (decide (w (0 - (if c.width < b.width then c.width else b.width)) ≤ a.width) && decide (a.width ≤ 1099511627776)) with
    | false => exact ⟨false, rfl, fun h => by cases h⟩
    | true =>
      have h7 : w (0 - (if c.width < b.width then c.width else b.width)) ≤ a.width ∧ a.width ≤ 1099511627776 := by simpa using h6
      have g : Good a b c := ⟨fun h => by omega, fun _ => ⟨eq_of_beq h3, eq_of_beq h4, h7⟩, fun h => by omega, fun h => by omega, fun h => by omega⟩
      exact ⟨_, rfl, fun _ => g⟩
  | false =>
  cases h3 : (a.kind == 3) with
  | true =>
    have e : a.kind = 3 := eq_of_beq h3
    cases h4 : (decide (1 ≤ a.size) && decide (a.size ≤ 67108864)) with
    | false => exact ⟨false, rfl, fun h => by cases h⟩
    | true =>
    cases h5 : (decide (0 ≤ a.width) && decide (a.width ≤ 67108864)) with
    | false => exact ⟨false, rfl, fun h => by cases h⟩
    | true =>
    cases h6 : (decide (0 ≤ a.stretch) && decide (a.stretch ≤ 67108864)) with
    | false => exact ⟨false, rfl, fun h => by cases h⟩
    | true =>
    cases h7 : (decide (0 ≤ a.shrink) && decide (a.shrink ≤ a.width)) with
    | false => exact ⟨false, rfl, fun h => by cases h⟩
    | true =>
      have h5' : 0 ≤ a.width ∧ a.width ≤ 67108864 := by simpa using h5
      have h6' : 0 ≤ a.stretch ∧ a.stretch ≤ 67108864 := by simpa using h6
      have h7' : 0 ≤ a.shrink ∧ a.shrink ≤ a.width := by simpa using h7
      have g : Good a b c := ⟨fun h => by omega, fun h => by omega, fun _ => ⟨h5', h6', h7'⟩, fun h => by omega, fun h => by omega⟩
      exact ⟨_, rfl, fun _ => g⟩
  | false =>
  cases h4 : (a.kind == 4) with
  | true =>
    have e : a.kind = 4 := eq_of_beq h4
    cases hv : (decide (-10000 ≤ a.value) && decide (a.value ≤ 10000)) with
    | false => cases hf : a.flag <;> exact ⟨false, rfl, fun h => by cases h⟩
    | true =>
    have hval : -10000 ≤ a.value := by have : -10000 ≤ a.value ∧ a.value ≤ 10000 := by simpa using hv
                                       exact this.1
    cases hf : a.flag with
    | false =>
      refine ⟨_, rfl, fun h => ?_⟩
      simp only [Bool.and_eq_true, beq_iff_eq] at h
      have hw : a.width = 0 := h.2.2.2.2.1
      exact ⟨fun h => by omega, fun h => by omega, fun h => by omega, fun _ => by omega, fun _ => hval⟩
    | true =>
    cases q with
    | false => exact ⟨false, rfl, fun h => by cases h⟩
    | true =>
      have := hq' rfl
      have g : Good a b c := ⟨fun h => by omega, fun h => by omega, fun h => by omega, fun _ => this, fun _ => hval⟩
      cases hr : (a.rune == 45) with
      | false => exact ⟨false, rfl, fun h => by cases h⟩
      | true =>
        cases decide (a.value > -10000) with
        | false => exact ⟨false, rfl, fun h => by cases h⟩
        | true => exact ⟨_, rfl, fun _ => g⟩
  | false => exact ⟨false, rfl, fun h => by cases h⟩

def prevOf (L : List GItem) (i : Nat) : GItem := if 0 < i then (L[i - 1]?).getD (GItem.mk 0 ByteArray.empty 0 0 0 0 0 0 0 0 false 0 0) else GItem.mk 0 ByteArray.empty 0 0 0 0 0 0 0 0 false 0 0
def nextOf (L : List GItem) (i : Nat) : GItem := (L[i + 1]?).getD (GItem.mk 0 ByteArray.empty 0 0 0 0 0 0 0 0 false 0 0)

theorem t64_l1 (k : Nat) (L : List GItem) (hl : L.length ≤ 4096) : ∀ (j : Nat) (v : Int) (i : Nat), i ≤ L.length → L.length < j + i →
    ∃ r, F64_l1 k L j v i = some r ∧ (r = .inl () → ∀ t y, i ≤ t → L[t]? = some y → Good y (prevOf L t) (nextOf L t))
  | 0, v, i, h1, h2 => by omega
  | j + 1, v, i, h1, h2 => by
    unfold F64_l1
    cases hc : decide ((i : Int) < (L.length : Int)) with
    | false =>
      have : ¬ (i : Int) < L.length := of_decide_eq_false hc
      refine ⟨.inl (), rfl, fun _ t y ht hy => ?_⟩
      have := lt_of_get hy
      omega
    | true =>
      have hi : (i : Int) < L.length := of_decide_eq_true hc
      obtain ⟨y, hy⟩ := at_of (L := L) (i := (i : Int)) (by omega) hi
      have hp : ∀ {β : Type} (f : Int × ByteArray × Int × Int × Int × Int × Int × Int × Int × Int × Bool × Int × Int → Option β), (Option.bind (bif decide ((i : Int) > 0) then (bindI L (w ((i : Int) - 1)) fun y22 => some (y22.kind, y22.font, y22.size, y22.rune, y22.width, y22.height, y22.depth, y22.stretch, y22.shrink, y22.value, y22.flag, y22.from_, y22.to_)) else (some (0, ByteArray.empty, 0, 0, 0, 0, 0, 0, 0, 0, false, 0, 0))) f) = 
          f ((prevOf L i).kind, (prevOf L i).font, (prevOf L i).size, (prevOf L i).rune, (prevOf L i).width, (prevOf L i).height, (prevOf L i).depth, (prevOf L i).stretch, (prevOf L i).shrink, (prevOf L i).value, (prevOf L i).flag, (prevOf L i).from_, (prevOf L i).to_) := by
        intro β f
        by_cases h0 : 0 < i
        · rw [decide_eq_true (show (i : Int) > 0 by omega), w_id (by omega) (by omega)]
          obtain ⟨z, hz⟩ := at_of (L := L) (i := (i : Int) - 1) (by omega) (by omega)
          rw [cond_true, bindI_eq (by omega) hz]
          have : (i : Int).toNat - 1 = i - 1 := by omega
          unfold prevOf
          rw [if_pos h0]
          rw [show ((i : Int) - 1).toNat = i - 1 by omega] at hz
          rw [hz]; rfl
        · rw [decide_eq_false (show ¬ (i : Int) > 0 by omega), cond_false]
          unfold prevOf
          rw [if_neg h0]; rfl
      have hn : ∀ {β : Type} (f : Int × ByteArray × Int × Int × Int × Int × Int × Int × Int × Int × Bool × Int × Int → Option β), (Option.bind (bif decide ((w ((i : Int) + 1)) < (L.length : Int)) then (bindI L (w ((i : Int) + 1)) fun y22 => some (y22.kind, y22.font, y22.size, y22.rune, y22.width, y22.height, y22.depth, y22.stretch, y22.shrink, y22.value, y22.flag, y22.from_, y22.to_)) else (some (0, ByteArray.empty, 0, 0, 0, 0, 0, 0, 0, 0, false, 0, 0))) f) = 
          f ((nextOf L i).kind, (nextOf L i).font, (nextOf L i).size, (nextOf L i).rune, (nextOf L i).width, (nextOf L i).height, (nextOf L i).depth, (nextOf L i).stretch, (nextOf L i).shrink, (nextOf L i).value, (nextOf L i).flag, (nextOf L i).from_, (nextOf L i).to_) := by
        intro β f
        rw [w_id (n := (i : Int) + 1) (by omega) (by omega)]
        by_cases h0 : i + 1 < L.length
        · rw [decide_eq_true (show (i : Int) + 1 < L.length by omega)]
          obtain ⟨z, hz⟩ := at_of (L := L) (i := (i : Int) + 1) (by omega) (by omega)
          rw [cond_true, bindI_eq (by omega) hz]
          unfold nextOf
          rw [show ((i : Int) + 1).toNat = i + 1 by omega] at hz
          rw [hz]; rfl
        · rw [decide_eq_false (show ¬ (i : Int) + 1 < L.length by omega), cond_false]
          unfold nextOf
          rw [List.getElem?_eq_none (by omega)]; rfl
      rw [cond_true, bindI_eq (by omega) hy]
      rw [show (i : Int).toNat = i by omega] at hy
      simp only [hp, hn]
      obtain ⟨r, hr, hg⟩ := t91 k y (prevOf L i) (nextOf L i)
      rw [hr]
      simp only [Option.bind_some]
      cases r with
      | false => exact ⟨.inr 1, rfl, fun h => by cases h⟩
      | true =>
        have g := hg rfl
        have step : ∀ v', ∃ r, F64_l1 k L j v' (w ((i : Int) + 1)) = some r ∧ (r = .inl () → ∀ t y, i ≤ t → L[t]? = some y → Good y (prevOf L t) (nextOf L t)) := by
          intro v'
          rw [w_id (n := (i : Int) + 1) (by omega) (by omega)]
          obtain ⟨r, h3, h4⟩ := t64_l1 k L hl j v' (i + 1) (by omega) (by omega)
          refine ⟨r, h3, fun e t z ht hz => ?_⟩
          by_cases hti : t = i
          · subst hti
            rw [hy] at hz; cases hz; exact g
          · exact h4 e t z (by omega) hz
        cases (y.kind == 2) with
        | true => exact step v
        | false =>
          simp only [t92]
          cases decide (y.from_ < v) with
          | true => exact ⟨.inr 1, rfl, fun h => by cases h⟩
          | false =>
            cases (decide (y.from_ ≤ y.to_) && decide (y.to_ ≤ 65536)) with
            | false => exact ⟨.inr 1, rfl, fun h => by cases h⟩
            | true => exact step y.to_

theorem t64_no (k : Nat) (L : List GItem) : ∀ (j : Nat) (v i : Int), F64_l1 k L j v i ≠ some (.inr 0)
  | 0, v, i => by unfold F64_l1; intro h; cases h
  | j + 1, v, i => by
    have ih := t64_no k L j
    unfold F64_l1
    intro h
    cases hc : decide (i < (L.length : Int)) with
    | false => rw [hc] at h; cases h
    | true =>
      rw [hc, cond_true] at h
      obtain ⟨x, hx, h⟩ := bind_some h
      cases x with
      | inl v' => exact ih _ _ h
      | inr q =>
        have hq : q = .inr 0 := by simpa using h
        subst hq
        obtain ⟨y, _, _, hx⟩ := bindI_some hx
        obtain ⟨p, _, hx⟩ := bind_some hx
        obtain ⟨n, _, hx⟩ := bind_some hx
        obtain ⟨p1, p2, p3, p4, p5, p6, p7, p8, p9, p10, p11, p12, p13⟩ := p
        obtain ⟨n1, n2, n3, n4, n5, n6, n7, n8, n9, n10, n11, n12, n13⟩ := n
        obtain ⟨r, _, hx⟩ := bind_some hx
        cases r with
        | false => cases hx
        | true =>
          simp only [Bool.not_true, cond_false] at hx
          cases hk : (y.kind == 2) with
          | true => rw [hk] at hx; cases hx
          | false =>
            rw [hk, cond_false] at hx
            obtain ⟨b, _, hx⟩ := bind_some hx
            cases b <;> cases hx

theorem t64 (k : Nat) (L : List GItem) (hk : L.length < k) : ∃ r, F64 k L = some r ∧ (r = 0 → L.length ≤ 4096 ∧ ∀ t y, L[t]? = some y → Good y (prevOf L t) (nextOf L t)) := by
  unfold F64
  cases hc : decide ((L.length : Int) > 4096) with
  | true => exact ⟨130, rfl, fun h => by omega⟩
  | false =>
    have hl : ¬ (L.length : Int) > 4096 := of_decide_eq_false hc
    obtain ⟨r, h1, h2⟩ := t64_l1 k L (by omega) k 0 0 (by omega) (by omega)
    rw [cond_false]
    have h1' : F64_l1 k L k 0 0 = some r := h1
    rw [h1', Option.bind_some]
    cases r with
    | inr n =>
      refine ⟨n, rfl, fun e => ?_⟩
      subst e
      exact (t64_no k L k 0 0 h1').elim
    | inl u =>
      have g := h2 rfl
      have good : L.length ≤ 4096 ∧ ∀ t y, L[t]? = some y → Good y (prevOf L t) (nextOf L t) := ⟨by omega, fun t y hy => g t y (by omega) hy⟩
      simp only [Sum.elim_inl]
      by_cases h0 : 0 < L.length
      · obtain ⟨y, hy⟩ := at_of (L := L) (i := (L.length : Int) - 1) (by omega) (by omega)
        rw [decide_eq_true (show (L.length : Int) > 0 by omega), cond_true, w_id (n := (L.length : Int) - 1) (by omega) (by omega), bindI_eq (by omega) hy, bindI_eq (by omega) hy]
        cases (y.kind != 4) with
        | true => exact ⟨1, rfl, fun h => by cases h⟩
        | false =>
          cases (y.value != (-10000)) with
          | true => exact ⟨1, rfl, fun h => by cases h⟩
          | false => exact ⟨0, rfl, fun _ => good⟩
      · rw [decide_eq_false (show ¬ (L.length : Int) > 0 by omega)]
        exact ⟨0, rfl, fun _ => good⟩

theorem t68 (k : Nat) (L : List GItem) (i : Int) (h0 : 0 ≤ i) (h1 : i < L.length) (hl : L.length ≤ 4096) : ∃ r, F68 k L i = some r := by
  obtain ⟨y, hy⟩ := at_of h0 h1
  unfold F68
  rw [bindI_eq h0 hy]
  cases (y.kind == 3) with
  | true =>
    by_cases h2 : 0 < i
    · obtain ⟨z, hz⟩ := at_of (L := L) (i := i - 1) (by omega) (by omega)
      rw [decide_eq_true (show i > 0 by omega), w_id (n := i - 1) (by omega) (by omega), bindI_eq (by omega) hz]
      exact ⟨_, rfl⟩
    · rw [decide_eq_false (show ¬ i > 0 by omega)]
      exact ⟨_, rfl⟩
  | false =>
    cases (y.kind == 4) with
    | true => rw [bindI_eq h0 hy]; exact ⟨_, rfl⟩
    | false => exact ⟨_, rfl⟩

theorem t70 (k : Nat) (y : GItem) : ∃ r, F70 k y = some r := by
  unfold F70
  cases (y.kind == 4) <;> exact ⟨_, rfl⟩

theorem t94_l1 (k : Nat) (L : List GItem) (hl : L.length ≤ 4096) : ∀ (j i : Nat), i ≤ L.length → L.length < j + i → ∃ r, F94_70_l1 k L j i = some r
  | 0, i, h1, h2 => by omega
  | j + 1, i, h1, h2 => by
    unfold F94_70_l1
    cases hc : decide ((i : Int) < (L.length : Int)) with
    | false => exact ⟨_, rfl⟩
    | true =>
      have hi : (i : Int) < L.length := of_decide_eq_true hc
      obtain ⟨y, hy⟩ := at_of (L := L) (i := (i : Int)) (by omega) hi
      obtain ⟨r, hr⟩ := t70 k y
      rw [cond_true, bindI_eq (by omega) hy, hr, Option.bind_some]
      cases r with
      | true => exact ⟨_, rfl⟩
      | false =>
        rw [w_id (n := (i : Int) + 1) (by omega) (by omega)]
        exact t94_l1 k L hl j (i + 1) (by omega) (by omega)

theorem t69 (k : Nat) (L : List GItem) (hl : L.length ≤ 4096) (hk : L.length < k) : ∃ r, F69_70 k L = some r := by
  unfold F69_70 F94_70
  obtain ⟨r, hr⟩ := t94_l1 k L hl k 0 (by omega) (by omega)
  have hr' : F94_70_l1 k L k 0 = some r := hr
  rw [hr', Option.bind_some]
  cases r <;> exact ⟨_, rfl⟩

theorem t71_l1 (k : Nat) (L : List GItem) (a3 : Int) (hl : L.length ≤ 4096) (h3 : a3 < L.length) : ∀ (j : Nat) (v : Int), 0 ≤ v → v ≤ a3 → a3 - v < j → ∃ r, F71_l1 k L a3 j v = some r ∧ v ≤ r ∧ r ≤ a3
  | 0, v, h0, h1, h2 => by omega
  | j + 1, v, h0, h1, h2 => by
    unfold F71_l1
    by_cases hv : v < a3
    · obtain ⟨y, hy⟩ := at_of (L := L) (i := v) (by omega) (by omega)
      rw [decide_eq_true hv, cond_true, bindI_eq (by omega) hy, Option.bind_some]
      cases (y.kind != 1) with
      | false => exact ⟨v, rfl, by omega, by omega⟩
      | true =>
        rw [w_id (n := v + 1) (by omega) (by omega)]
        obtain ⟨r, k1, k2, k3⟩ := t71_l1 k L a3 hl h3 j (v + 1) (by omega) (by omega) (by omega)
        exact ⟨r, k1, by omega, k3⟩
    · rw [decide_eq_false hv]
      exact ⟨v, rfl, by omega, by omega⟩

theorem t71_l2 (k : Nat) (L : List GItem) (v1 : Int) (hl : L.length ≤ 4096) (h0 : 0 ≤ v1) : ∀ (j : Nat) (v : Int), v1 ≤ v → v ≤ L.length → v - v1 < j → ∃ r, F71_l2 k L v1 j v = some r ∧ v1 ≤ r ∧ r ≤ v
  | 0, v, h1, h3, h2 => by omega
  | j + 1, v, h1, h3, h2 => by
    unfold F71_l2
    by_cases hv : v > v1
    · obtain ⟨y, hy⟩ := at_of (L := L) (i := v - 1) (by omega) (by omega)
      rw [decide_eq_true hv, cond_true, w_id (n := v - 1) (by omega) (by omega), bindI_eq (by omega) hy, Option.bind_some]
      cases (y.kind != 1) with
      | false => exact ⟨v, rfl, by omega, by omega⟩
      | true =>
        obtain ⟨r, k1, k2, k3⟩ := t71_l2 k L v1 hl h0 j (v - 1) (by omega) (by omega) (by omega)
        exact ⟨r, k1, by omega, by omega⟩
    · rw [decide_eq_false hv]
      exact ⟨v, rfl, by omega, by omega⟩


/-! ### What a line's sums come to -/
structure Fine (y : GItem) : Prop where
  width : y.kind = 1 ∨ y.kind = 2 ∨ y.kind = 3 → -1099511627776 ≤ y.width ∧ y.width ≤ 1099511627776
  glue : y.kind = 3 → (0 ≤ y.stretch ∧ y.stretch ≤ 67108864) ∧ 0 ≤ y.shrink ∧ y.shrink ≤ 67108864
  pen : y.kind = 4 → 0 ≤ y.width ∧ y.width ≤ 1099511627776
  val : y.kind = 4 → -10000 ≤ y.value

theorem fine_of {L : List GItem} (h : ∀ t y, L[t]? = some y → Good y (prevOf L t) (nextOf L t)) {t : Nat} {y : GItem} (hy : L[t]? = some y) : Fine y := by
  have g := h t y hy
  refine ⟨fun hk => ?_, fun hk => ?_, g.pen, g.val⟩
  · rcases hk with hk | hk | hk
    · have := g.box hk; omega
    · obtain ⟨k1, k2, k3, k4⟩ := g.kern hk
      have hp : 0 ≤ (prevOf L t).width ∧ (prevOf L t).width ≤ 1099511627776 := by
        unfold prevOf at k1 ⊢
        by_cases h0 : 0 < t
        · rw [if_pos h0] at k1 ⊢
          cases hz : L[t - 1]? with
          | none => rw [hz] at k1; cases k1
          | some z =>
            rw [hz] at k1
            exact (h _ z hz).box k1
        · rw [if_neg h0] at k1; cases k1
      have hn : 0 ≤ (nextOf L t).width ∧ (nextOf L t).width ≤ 1099511627776 := by
        unfold nextOf at k2 ⊢
        cases hz : L[t + 1]? with
        | none => rw [hz] at k2; cases k2
        | some z =>
          rw [hz] at k2
          exact (h _ z hz).box k2
      split at k3
      · rw [w_id (by omega) (by omega)] at k3; omega
      · rw [w_id (by omega) (by omega)] at k3; omega
    · have := g.glue hk; omega
  · have := g.glue hk; omega

theorem t71_l3 (k : Nat) (M : List GItem) (hl : M.length ≤ 4096) (hf : ∀ (t : Nat) (y : GItem), M[t]? = some y → Fine y) : ∀ (j i : Nat) (a b c d e : Int), i ≤ M.length → M.length < j + i → -1099511627776 * i ≤ a → a ≤ 1099511627776 * i → 0 ≤ b → b ≤ 67108864 * i → 0 ≤ c → c ≤ 67108864 * i →
    ∃ a' b' c' d' e', F71_l3 k M j i a b c d e = some (a', b', c', d', e') ∧ -4503599627370496 ≤ a' ∧ a' ≤ 4503599627370496 ∧ 0 ≤ b' ∧ b' ≤ 274877906944 ∧ 0 ≤ c' ∧ c' ≤ 274877906944
  | 0, i, a, b, c, d, e, h1, h2, h3, h4, h5, h6, h7, h8 => by omega
  | j + 1, i, a, b, c, d, e, h1, h2, h3, h4, h5, h6, h7, h8 => by
    unfold F71_l3
    by_cases hi : (i : Int) < M.length
    · obtain ⟨y, hy⟩ := at_of (L := M) (i := (i : Int)) (by omega) hi
      have fy := hf _ y hy
      rw [decide_eq_true hi, cond_true, bindI_eq (by omega) hy]
      rw [w_id (n := (i : Int) + 1) (by omega) (by omega)]
      cases q1 : (y.kind == 1) with
      | true =>
        have wy := fy.width (.inl (eq_of_beq q1))
        rw [w_id (n := a + y.width) (by omega) (by omega)]
        exact t71_l3 k M hl hf j (i + 1) _ _ _ _ _ (by omega) (by omega) (by omega) (by omega) (by omega) (by omega) (by omega) (by omega)
      | false =>
      cases q2 : (y.kind == 2) with
      | true =>
        have wy := fy.width (.inr (.inl (eq_of_beq q2)))
        rw [w_id (n := a + y.width) (by omega) (by omega)]
        exact t71_l3 k M hl hf j (i + 1) _ _ _ _ _ (by omega) (by omega) (by omega) (by omega) (by omega) (by omega) (by omega) (by omega)
      | false =>
      cases q3 : (y.kind == 3) with
      | true =>
        have wy := fy.width (.inr (.inr (eq_of_beq q3)))
        have gy := fy.glue (eq_of_beq q3)
        rw [w_id (n := a + y.width) (by omega) (by omega), w_id (n := b + y.stretch) (by omega) (by omega), w_id (n := c + y.shrink) (by omega) (by omega)]
        exact t71_l3 k M hl hf j (i + 1) _ _ _ _ _ (by omega) (by omega) (by omega) (by omega) (by omega) (by omega) (by omega) (by omega)
      | false => exact t71_l3 k M hl hf j (i + 1) _ _ _ _ _ (by omega) (by omega) (by omega) (by omega) (by omega) (by omega) (by omega) (by omega)
    · rw [decide_eq_false hi]
      exact ⟨a, b, c, d, e, rfl, by omega, by omega, by omega, by omega, by omega, by omega⟩

/-! ### How bad a line is -/
theorem t106 (k : Nat) (x : Int) (h : 100 ≤ x) (h' : x ≤ 1000) : ∃ r, F106 k x = some r ∧ 100 ≤ r := by
  unfold F106
  refine ⟨_, rfl, ?_⟩
  have a1 : 100 * 100 ≤ x * x := Int.mul_le_mul h h (by omega) (by omega)
  have a2 : x * x ≤ 1000 * 1000 := Int.mul_le_mul h' h' (by omega) (by omega)
  have a3 : 10000 * 100 ≤ x * x * x := Int.mul_le_mul (by omega) h (by omega) (by omega)
  have a4 : x * x * x ≤ 1000000 * 1000 := Int.mul_le_mul (by omega) h' (by omega) (by omega)
  rw [w_id (n := x * x) (by omega) (by omega), w_id (n := x * x * x) (by omega) (by omega), Int.tdiv_eq_ediv_of_nonneg (by omega)]
  rw [w_id (n := x * x * x / 10000) (by omega) (by omega)]
  split <;> omega

/-- what a line's numbers keep -/
def Keeps (x : GLine) : Prop := x.over_ = false → x.bad < 100 → w (0 - x.short) ≤ x.shrink ∧ (x.end_ = true ∨ x.short ≤ x.stretch)

theorem t95 (k : Nat) (x : GLine) (hs : 0 ≤ x.stretch) (hs' : x.stretch ≤ 274877906944) (hk : 0 ≤ x.shrink) (hk' : x.shrink ≤ 274877906944) (ht : -9007199254740992 ≤ x.short) (ht' : x.short ≤ 9007199254740992) :
    ∃ r, F95 k x = some r ∧ Keeps r := by
  unfold F95
  have e106 : ∀ y, ∃ r, F106 k y = some r := fun y => ⟨_, rfl⟩
  rw [w_id (n := 0 - x.shrink) (by omega) (by omega), w_id (n := 0 - x.short) (by omega) (by omega)]
  by_cases h1 : x.short < 0
  · rw [decide_eq_true h1]
    by_cases h2 : x.short < 0 - x.shrink
    · rw [decide_eq_true h2]
      exact ⟨_, rfl, fun h => by cases h⟩
    · rw [decide_eq_false h2]
      have h3 : (x.short == 0) = false := by rw [beq_eq_false_iff_ne]; omega
      have h4 : decide (x.short > 0) = false := decide_eq_false (by omega)
      rw [h3, h4]
      obtain ⟨q, hq⟩ := e106 (w (Int.tdiv (w (100 * (0 - x.short))) x.shrink))
      have keep : ∀ b c, Keeps (GLine.mk x.first x.last x.break_ x.natural x.stretch x.shrink x.short b c x.over_ x.hyphen x.end_ x.height x.depth) := fun b c _ _ =>
        ⟨by show w (0 - x.short) ≤ x.shrink; rw [w_id (by omega) (by omega)]; omega, .inr (by show x.short ≤ x.stretch; omega)⟩
      simp only [cond_true, cond_false, Option.bind_some, bindD, if_neg (show ¬ x.shrink = 0 by omega), hq]
      cases decide (w (Int.tdiv (w (100 * (0 - x.short))) x.shrink) > 50)
      · exact ⟨_, rfl, keep _ _⟩
      · exact ⟨_, rfl, keep _ _⟩
  · rw [decide_eq_false h1]
    have k1 : w (0 - x.short) ≤ x.shrink := by rw [w_id (by omega) (by omega)]; omega
    by_cases h3 : x.short = 0
    · have h3' : (x.short == 0) = true := by rw [h3]; rfl
      rw [h3']
      exact ⟨_, rfl, fun _ _ => ⟨k1, .inr (by show x.short ≤ x.stretch; omega)⟩⟩
    · have h3' : (x.short == 0) = false := by rw [beq_eq_false_iff_ne]; exact h3
      rw [h3', decide_eq_true (show x.short > 0 by omega)]
      cases he : x.end_ with
      | true => exact ⟨_, rfl, fun _ _ => ⟨k1, .inl rfl⟩⟩
      | false =>
      by_cases h4 : x.stretch = 0
      · have h4' : (x.stretch == 0) = true := by rw [h4]; rfl
        rw [h4']
        exact ⟨_, rfl, fun _ h => by have h' : (10000 : Int) < 100 := h; omega⟩
      · have h4' : (x.stretch == 0) = false := by rw [beq_eq_false_iff_ne]; exact h4
        rw [h4']
        have d0 : 0 ≤ 100 * x.short / x.stretch := Int.ediv_nonneg (by omega) (by omega)
        have d1 : 100 * x.short / x.stretch ≤ 100 * x.short := Int.ediv_le_self _ (by omega)
        have ew : w (Int.tdiv (w (100 * x.short)) x.stretch) = 100 * x.short / x.stretch := by
          rw [w_id (n := 100 * x.short) (by omega) (by omega), Int.tdiv_eq_ediv_of_nonneg (by omega), w_id (by omega) (by omega)]
        rw [ew]
        generalize hd : (if 1000 < 100 * x.short / x.stretch then (1000 : Int) else 100 * x.short / x.stretch) = d
        obtain ⟨q, hq⟩ := e106 d
        have keep : ∀ c, Keeps (GLine.mk x.first x.last x.break_ x.natural x.stretch x.shrink x.short q c x.over_ x.hyphen false x.height x.depth) := fun c _ hb => by
          refine ⟨k1, .inr ?_⟩
          show x.short ≤ x.stretch
          by_cases h5 : x.short ≤ x.stretch
          · exact h5
          · exfalso
            have h6 : 100 ≤ 100 * x.short / x.stretch := (Int.le_ediv_iff_mul_le (by omega)).2 (by omega)
            obtain ⟨r, hr, hr'⟩ := t106 k d (by rw [← hd]; split <;> omega) (by rw [← hd]; split <;> omega)
            rw [hq] at hr; cases hr
            have hb' : q < 100 := hb
            omega
        simp only [cond_true, cond_false, Option.bind_some, bindD, if_neg h4, hq]
        cases decide (d ≤ 50) with
        | true => exact ⟨_, rfl, keep _⟩
        | false =>
          cases decide (d ≤ 100) with
          | true => exact ⟨_, rfl, keep _⟩
          | false => exact ⟨_, rfl, keep _⟩

theorem t71 (k : Nat) (L : List GItem) (a1 a2 a3 : Int) (hl : L.length ≤ 4096) (hk : L.length < k) (hf : ∀ (t : Nat) (y : GItem), L[t]? = some y → Fine y) (h1 : 1 ≤ a1) (h1' : a1 ≤ 536870912) (h2 : -1 ≤ a2) (h3 : a2 < a3) (h4 : a3 < L.length) :
    ∃ r, F71 k L a1 a2 a3 = some r ∧ Keeps r := by
  unfold F71
  rw [w_id (n := a2 + 1) (by omega) (by omega)]
  obtain ⟨v1, e1, k1, k2⟩ := t71_l1 k L a3 hl h4 k (a2 + 1) (by omega) (by omega) (by omega)
  rw [e1, Option.bind_some]
  obtain ⟨v7, e2, k3, k4⟩ := t71_l2 k L v1 hl (by omega) k a3 (by omega) (by omega) (by omega)
  rw [e2, Option.bind_some]
  unfold bindS
  rw [if_pos ⟨by omega, by omega, by omega⟩]
  obtain ⟨a, b, c, d, e, e3, b1, b2, b3, b4, b5, b6⟩ := t71_l3 k ((L.take v7.toNat).drop v1.toNat) (by simp; omega) (fun t y hy => by
    rw [List.getElem?_drop, List.getElem?_take] at hy
    split at hy
    · exact hf _ y hy
    · cases hy) k 0 0 0 0 0 0 (by omega) (by simp; omega) (by omega) (by omega) (by omega) (by omega) (by omega) (by omega)
  have e3' : F71_l3 k ((L.take v7.toNat).drop v1.toNat) k 0 0 0 0 0 0 = some (a, b, c, d, e) := e3
  dsimp only
  rw [e3', Option.bind_some]
  dsimp only
  obtain ⟨y, hy⟩ := at_of (L := L) (i := a3) (by omega) h4
  rw [bindI_eq (by omega) hy]
  have fin : ∀ (n : Int) (f g : Bool) (u v : Int), -4503599627370496 ≤ n → n ≤ 4504699139000000 → ∃ r, (F95 k (GLine.mk v1 v7 a3 n b c (w (a1 - n)) 0 0 false f g u v)).bind (fun r51 => some r51) = some r ∧ Keeps r := by
    intro n f g u v n1 n2
    rw [w_id (n := a1 - n) (by omega) (by omega)]
    obtain ⟨r, hr, hr'⟩ := t95 k (GLine.mk v1 v7 a3 n b c (a1 - n) 0 0 false f g u v) b3 b4 b5 b6 (by show _ ≤ a1 - n; omega) (by show a1 - n ≤ _; omega)
    rw [hr]
    exact ⟨r, rfl, hr'⟩
  cases q : (y.kind == 4) with
  | false => exact fin _ _ _ _ _ (by omega) (by omega)
  | true =>
    obtain ⟨r, hr⟩ := t70 k y
    have := (hf _ y hy).pen (eq_of_beq q)
    have ew := w_id (n := a + y.width) (by omega) (by omega)
    rw [cond_true, hr, Option.bind_some]
    cases hy' : y.flag with
    | false => rw [cond_false, Option.bind_some]; exact fin (w (a + y.width)) _ _ _ _ (by omega) (by omega)
    | true => rw [cond_true, Option.bind_some]; exact fin (w (a + y.width)) _ _ _ _ (by omega) (by omega)

theorem t60 (k : Nat) (a b : Int) (ha : 0 ≤ a) (hb : 0 ≤ b) : ∃ r, F60 k a b = some r ∧ a ≤ r ∨ (∃ r, F60 k a b = some r ∧ 2147483647 < r) := by
  unfold F60
  by_cases h1 : a > 2147483647
  · rw [decide_eq_true h1]
    exact ⟨2147483648, .inr ⟨_, rfl, by decide⟩⟩
  · rw [decide_eq_false h1, w_id (n := 2147483647 - a) (by omega) (by omega)]
    by_cases h2 : b > 2147483647 - a
    · rw [decide_eq_true h2]
      exact ⟨2147483648, .inr ⟨_, rfl, by decide⟩⟩
    · rw [decide_eq_false h2]
      refine ⟨a + b, .inl ⟨?_, by omega⟩⟩
      rw [w_id (n := a + b) (by omega) (by omega)]
      rfl

theorem t27_l1 (k : Nat) (L : List GItem) (hl : (L.length : Int) < 9223372036854775808) : ∀ (j i : Nat) (v : Int), 0 ≤ v → i ≤ L.length → L.length < j + i → ∃ r, F27_l1 k L j v i = some r ∧ (r ≤ 2147483647 → v ≤ r)
  | 0, i, v, h0, h1, h2 => by omega
  | j + 1, i, v, h0, h1, h2 => by
    unfold F27_l1
    by_cases hi : (i : Int) < L.length
    · rw [decide_eq_true hi]
      by_cases hv : v ≤ 2147483647
      · rw [decide_eq_true hv]
        obtain ⟨y, hy⟩ := at_of (L := L) (i := (i : Int)) (by omega) hi
        simp only [cond_true, Option.bind_some]
        rw [bindI_eq (by omega) hy, w_id (n := (i : Int) + 1) (by omega) (by omega)]
        obtain ⟨_, h | h⟩ := t60 k v (y.font.size : Int) h0 (by omega)
        · obtain ⟨h3, h4⟩ := h
          rw [h3, Option.bind_some]
          obtain ⟨r, h5, h6⟩ := t27_l1 k L hl j (i + 1) _ (Int.le_trans h0 h4) (by omega) (by omega)
          exact ⟨r, h5, fun h => Int.le_trans h4 (h6 h)⟩
        · obtain ⟨u, h3, h4⟩ := h
          rw [h3, Option.bind_some]
          obtain ⟨r, h5, h6⟩ := t27_l1 k L hl j (i + 1) u (by omega) (by omega) (by omega)
          exact ⟨r, h5, fun h => by have := h6 h; omega⟩
      · rw [decide_eq_false hv]
        exact ⟨v, rfl, fun _ => Int.le_refl _⟩
    · rw [decide_eq_false hi]
      exact ⟨v, rfl, fun _ => Int.le_refl _⟩

theorem t27 (k : Nat) (L : List GItem) (hl : (L.length : Int) < 9223372036854775808) (hk : L.length < k) : ∃ r, F27 k L = some r ∧ (r = false → L.length ≤ 2147483647) := by
  unfold F27
  obtain ⟨r, h1, h2⟩ := t27_l1 k L hl k 0 L.length (by omega) (by omega) (by omega)
  have h1' : F27_l1 k L k (L.length : Int) 0 = some r := h1
  rw [h1', Option.bind_some]
  refine ⟨_, rfl, fun h => ?_⟩
  have h3 : ¬ r > 2147483647 := of_decide_eq_false h
  have := h2 (by omega)
  omega


/-! ### The document's line is the same -/
theorem e106 (k : Nat) (x : Int) : F107 k x = F106 k x := by
  unfold F106 F107
  by_cases h : 10000 < w (Int.tdiv (w ((w (x * x)) * x)) 10000)
  · rw [if_pos h, decide_eq_true (show w (Int.tdiv (w ((w (x * x)) * x)) 10000) > 10000 from h)]; rfl
  · rw [if_neg h, decide_eq_false (show ¬ w (Int.tdiv (w ((w (x * x)) * x)) 10000) > 10000 from h)]; rfl

theorem e95 (k : Nat) (x : GLine) (hs : 0 ≤ x.stretch) (hs' : x.stretch ≤ 274877906944) (hk : 0 ≤ x.shrink) (hk' : x.shrink ≤ 274877906944) (ht : -9007199254740992 ≤ x.short) (ht' : x.short ≤ 9007199254740992) :
    F97 k x = F95 k x := by
  unfold F95 F97
  simp only [e106]
  by_cases h1 : x.short < 0
  · rw [decide_eq_true h1]
    by_cases h2 : x.short < w (0 - x.shrink)
    · rw [decide_eq_true h2]; rfl
    · rw [decide_eq_false h2]
      have h3 : (x.short == 0) = false := by rw [beq_eq_false_iff_ne]; omega
      have h4 : decide (x.short > 0) = false := decide_eq_false (by omega)
      rw [h3, h4]; rfl
  · rw [decide_eq_false h1]
    by_cases h3 : x.short = 0
    · have h3' : (x.short == 0) = true := by rw [h3]; rfl
      rw [h3']; rfl
    · have h3' : (x.short == 0) = false := by rw [beq_eq_false_iff_ne]; exact h3
      rw [h3', decide_eq_true (show x.short > 0 by omega)]
      cases he : x.end_ with
      | true => rfl
      | false =>
      by_cases h4 : x.stretch = 0
      · have h4' : (x.stretch == 0) = true := by rw [h4]; rfl
        rw [h4']; rfl
      · have h4' : (x.stretch == 0) = false := by rw [beq_eq_false_iff_ne]; exact h4
        rw [h4']
        have d0 : 0 ≤ 100 * x.short / x.stretch := Int.ediv_nonneg (by omega) (by omega)
        have d1 : 100 * x.short / x.stretch ≤ 100 * x.short := Int.ediv_le_self _ (by omega)
        have ew : w (Int.tdiv (w (100 * x.short)) x.stretch) = 100 * x.short / x.stretch := by
          rw [w_id (n := 100 * x.short) (by omega) (by omega), Int.tdiv_eq_ediv_of_nonneg (by omega), w_id (by omega) (by omega)]
        rw [ew, w_id (n := 10 * x.stretch) (by omega) (by omega)]
        have fin : ∀ d : Int, (F106 k d).bind (fun r24 => Option.bind (α := Int) (bif decide (d ≤ 100) then (some 2) else (some 3)) fun (v7 : Int) => bif decide (d ≤ 50) then (some (r24, 1, x.over_)) else (some (r24, v7, x.over_))) =
            (F106 k d).bind fun r24 => bif decide (d ≤ 50) then (some (r24, 1, x.over_)) else (bif decide (d ≤ 100) then (some (r24, 2, x.over_)) else (some (r24, 3, x.over_))) := by
          intro d
          obtain ⟨q, hq⟩ : ∃ q, F106 k d = some q := ⟨_, rfl⟩
          rw [hq, Option.bind_some, Option.bind_some]
          cases decide (d ≤ 50) <;> cases decide (d ≤ 100) <;> rfl
        by_cases h5 : x.short < 10 * x.stretch
        · have h6 : 100 * x.short / x.stretch < 1000 := Int.ediv_lt_of_lt_mul (by omega) (by omega)
          rw [decide_eq_true h5, if_neg (show ¬ 1000 < 100 * x.short / x.stretch by omega)]
          simp only [cond_true, cond_false, Option.bind_some, bindD, if_neg h4, fin]
        · have h6 : 1000 ≤ 100 * x.short / x.stretch := (Int.le_ediv_iff_mul_le (by omega)).2 (by omega)
          have h7 : (if 1000 < 100 * x.short / x.stretch then (1000 : Int) else 100 * x.short / x.stretch) = 1000 := by split <;> omega
          rw [decide_eq_false h5, h7]
          simp only [cond_true, cond_false, Option.bind_some, bindD, if_neg h4, fin]

theorem e71_l1 (k : Nat) (L : List GItem) (a3 : Int) : ∀ (j : Nat) (v : Int), F74_l1 k L a3 j v = F71_l1 k L a3 j v
  | 0, v => rfl
  | j + 1, v => by
    unfold F71_l1 F74_l1
    simp only [e71_l1 k L a3 j]

theorem e71_l2 (k : Nat) (L : List GItem) (v1 : Int) : ∀ (j : Nat) (v : Int), F74_l2 k L v1 j v = F71_l2 k L v1 j v
  | 0, v => rfl
  | j + 1, v => by
    unfold F71_l2 F74_l2
    simp only [e71_l2 k L v1 j]

theorem cond_some {α : Type} (b : Bool) (x y : α) : (bif b then some x else some y) = some (bif b then x else y) := by cases b <;> rfl
theorem ite_cond {α : Type} {p : Prop} [Decidable p] (x y : α) : (bif decide p then x else y) = if p then x else y := by
  by_cases h : p
  · rw [decide_eq_true h, if_pos h]; rfl
  · rw [decide_eq_false h, if_neg h]; rfl

theorem e71_l3 (k : Nat) (L : List GItem) (v1 v7 : Int) (h0 : 0 ≤ v1) (h1 : v1 ≤ v7) (h7 : v7 ≤ L.length) (hl : L.length ≤ 4096) : ∀ (j i : Nat) (a b c d e : Int), v1 + i ≤ v7 →
    F74_l3 k L v7 j (v1 + i) a b c d e = F71_l3 k ((L.take v7.toNat).drop v1.toNat) j i a b c d e
  | 0, i, a, b, c, d, e, hi => rfl
  | j + 1, i, a, b, c, d, e, hi => by
    have hM : ((L.take v7.toNat).drop v1.toNat).length = v7.toNat - v1.toNat := by simp; omega
    unfold F71_l3 F74_l3
    by_cases hv : v1 + i < v7
    · rw [decide_eq_true hv, decide_eq_true (show (i : Int) < ((L.take v7.toNat).drop v1.toNat).length by rw [hM]; omega)]
      obtain ⟨y, hy⟩ := at_of (L := L) (i := v1 + i) (by omega) (by omega)
      have hy' : ((L.take v7.toNat).drop v1.toNat)[(i : Int).toNat]? = some y := by
        rw [List.getElem?_drop, List.getElem?_take, if_pos (by omega), show v1.toNat + (i : Int).toNat = (v1 + i).toNat by omega]
        exact hy
      rw [cond_true, cond_true, bindI_eq (by omega) hy, bindI_eq (by omega) hy', w_id (n := v1 + i + 1) (by omega) (by omega), w_id (n := (i : Int) + 1) (by omega) (by omega)]
      have ih : ∀ a b c d e, F74_l3 k L v7 j (v1 + i + 1) a b c d e = F71_l3 k ((L.take v7.toNat).drop v1.toNat) j ((i : Int) + 1) a b c d e := by
        intro a b c d e
        have := e71_l3 k L v1 v7 h0 h1 h7 hl j (i + 1) a b c d e (by omega)
        rw [show v1 + ((i + 1 : Nat) : Int) = v1 + i + 1 by omega] at this
        exact this
      simp only [ih]
      cases (y.kind == 1) with
      | true =>
        simp only [cond_true, Option.bind_some, ← ite_cond]
        cases decide (y.height > d) <;> cases decide (y.depth > e) <;> rfl
      | false => rfl
    · rw [decide_eq_false hv, decide_eq_false (show ¬ (i : Int) < ((L.take v7.toNat).drop v1.toNat).length by rw [hM]; omega)]
      rfl



theorem x70 (k : Nat) (y : GItem) : F70 k y = some (y.kind == 4 && decide (y.value ≤ -10000)) := by
  unfold F70
  cases (y.kind == 4) <;> rfl
theorem x96 (k : Nat) (L : List GItem) (i : Int) (y : GItem) (h0 : 0 ≤ i) (hy : L[i.toNat]? = some y) : F96 k L i = some (y.kind == 4 && (y.value == -10000)) := by
  unfold F96
  simp only [bindI_eq h0 hy]
  cases (y.kind == 4) <;> rfl
theorem same_pen {y : GItem} (hf : Fine y) : (y.kind == 4 && (y.value == -10000)) = (y.kind == 4 && decide (y.value ≤ -10000)) := by
  cases q : (y.kind == 4) with
  | false => rfl
  | true =>
    have := hf.val (eq_of_beq q)
    rw [Bool.true_and, Bool.true_and, Bool.eq_iff_iff]
    simp
    omega

theorem e74 (k : Nat) (L : List GItem) (a1 a2 a3 : Int) (hl : L.length ≤ 4096) (hk : L.length < k) (hf : ∀ (t : Nat) (y : GItem), L[t]? = some y → Fine y) (h1 : 1 ≤ a1) (h1' : a1 ≤ 536870912) (h2 : -1 ≤ a2) (h3 : a2 < a3) (h4 : a3 < L.length) :
    F74 k L a1 a2 a3 = F71 k L a1 a2 a3 := by
  unfold F71 F74
  simp only [e71_l1, e71_l2]
  rw [w_id (n := a2 + 1) (by omega) (by omega)]
  obtain ⟨v1, e1, k1, k2⟩ := t71_l1 k L a3 hl h4 k (a2 + 1) (by omega) (by omega) (by omega)
  rw [e1, Option.bind_some, Option.bind_some]
  obtain ⟨v7, e2, k3, k4⟩ := t71_l2 k L v1 hl (by omega) k a3 (by omega) (by omega) (by omega)
  rw [e2, Option.bind_some, Option.bind_some]
  unfold bindS
  rw [if_pos ⟨by omega, by omega, by omega⟩]
  obtain ⟨a, b, c, d, e, e3, b1, b2, b3, b4, b5, b6⟩ := t71_l3 k ((L.take v7.toNat).drop v1.toNat) (by simp; omega) (fun t y hy => by
    rw [List.getElem?_drop, List.getElem?_take] at hy
    split at hy
    · exact hf _ y hy
    · cases hy) k 0 0 0 0 0 0 (by omega) (by simp; omega) (by omega) (by omega) (by omega) (by omega) (by omega) (by omega)
  have e3' : F71_l3 k ((L.take v7.toNat).drop v1.toNat) k 0 0 0 0 0 0 = some (a, b, c, d, e) := e3
  have e4 := e71_l3 k L v1 v7 (by omega) k3 (by omega) hl k 0 0 0 0 0 0 (by omega)
  rw [show v1 + ((0 : Nat) : Int) = v1 by omega, e3] at e4
  dsimp only
  rw [e3', e4, Option.bind_some, Option.bind_some]
  dsimp only
  obtain ⟨y, hy⟩ := at_of (L := L) (i := a3) (by omega) h4
  rw [bindI_eq (by omega) hy, bindI_eq (by omega) hy]
  have fin : ∀ (n : Int) (f g : Bool) (u v : Int), -4503599627370496 ≤ n → n ≤ 4504699139000000 → F97 k (GLine.mk v1 v7 a3 n b c (w (a1 - n)) 0 0 false f g u v) = F95 k (GLine.mk v1 v7 a3 n b c (w (a1 - n)) 0 0 false f g u v) := by
    intro n f g u v n1 n2
    rw [w_id (n := a1 - n) (by omega) (by omega)]
    exact e95 k (GLine.mk v1 v7 a3 n b c (a1 - n) 0 0 false f g u v) b3 b4 b5 b6 (by show _ ≤ a1 - n; omega) (by show a1 - n ≤ _; omega)
  have fy := hf _ y hy
  have sp := same_pen fy
  cases q : (y.kind == 4) with
  | false =>
    simp only [cond_false, Option.bind_some, fin a false false d e (by omega) (by omega)]
  | true =>
    rw [q, Bool.true_and, Bool.true_and] at sp
    have := fy.pen (eq_of_beq q)
    have ew := w_id (n := a + y.width) (by omega) (by omega)
    have fin' : ∀ f g u v, F97 k (GLine.mk v1 v7 a3 (w (a + y.width)) b c (w (a1 - (w (a + y.width)))) 0 0 false f g u v) = F95 k (GLine.mk v1 v7 a3 (w (a + y.width)) b c (w (a1 - (w (a + y.width)))) 0 0 false f g u v) := fun f g u v => fin _ f g u v (by omega) (by omega)
    simp only [x70, q, Bool.true_and, cond_true, Option.bind_some, sp]
    cases hy' : y.flag with
    | false => simp only [cond_false, Option.bind_some, fin']
    | true =>
      simp only [cond_true, Option.bind_some, ← ite_cond]
      cases decide (y.height > d) <;> cases decide (y.depth > e) <;> simp only [cond_true, cond_false, Option.bind_some, fin']

theorem e68 (k : Nat) (L : List GItem) (i : Int) : F67 k L i = F68 k L i := rfl



theorem bif_id (b : Bool) : (bif b then some true else some false) = some b := by cases b <;> rfl

theorem x104 (k : Nat) (x : GItem) : F104 k x = some ((decide (1 ≤ x.size) && decide (x.size ≤ 67108864)) && ((decide (0 ≤ x.width) && decide (x.width ≤ 1099511627776)) && ((decide (0 ≤ x.height) && decide (x.height ≤ 1099511627776)) && (decide (0 ≤ x.depth) && decide (x.depth ≤ 1099511627776))))) := by
  unfold F104
  simp only [t92, Option.bind_some]
  cases (decide (1 ≤ x.size) && decide (x.size ≤ 67108864)) <;> cases (decide (0 ≤ x.width) && decide (x.width ≤ 1099511627776)) <;> cases (decide (0 ≤ x.height) && decide (x.height ≤ 1099511627776)) <;> cases (decide (0 ≤ x.depth) && decide (x.depth ≤ 1099511627776)) <;> rfl

theorem x99 (k : Nat) (a : Int) : F99 k a = some (decide (1 ≤ a) && decide (a ≤ 67108864)) := by
  unfold F99
  have e : decide (a ≥ 1) = decide (1 ≤ a) := rfl
  rw [e]
  cases decide (1 ≤ a) <;> rfl
theorem x100 (k : Nat) (a : Int) : F100 k a = some (decide (0 ≤ a) && decide (a ≤ 1099511627776)) := by
  unfold F100
  have e : decide (a ≥ 0) = decide (0 ≤ a) := rfl
  rw [e]
  cases decide (0 ≤ a) <;> rfl

theorem wi32 {a : Int} (h : 0 ≤ a) (h' : a ≤ 1114111) : w_i32 a = a := by
  unfold w_i32
  rw [IntKind.wrap_i32]; omega

/-- a character's bytes: there are some, or none -/
theorem x105 (k : Nat) (a : Int) : ∃ u v, F105 k a = some u ∧ F98 k a = some v ∧ decide (u > 0) = decide (v > 0) := by
  unfold F105 F98
  by_cases h1 : a < 0
  · rw [decide_eq_true h1]; exact ⟨0, 0, rfl, rfl, rfl⟩
  rw [decide_eq_false h1]
  by_cases h2 : a > 1114111
  · rw [decide_eq_true h2]; exact ⟨0, 0, rfl, rfl, rfl⟩
  rw [decide_eq_false h2]
  have bytes : (¬ (a ≥ 55296 ∧ a ≤ 57343)) → ∃ u v : Int, (F110 k (w_i32 a)).bind (fun r14 => some r14) = some u ∧ (bif decide (a < 128) then (some (1 : Int)) else (bif decide (a < 2048) then (some 2) else (bif decide (a < 65536) then (some 3) else (some 4)))) = some v ∧ decide (u > 0) = decide (v > 0) := by
    intro hs
    rw [wi32 (by omega) (by omega)]
    unfold F110
    rw [decide_eq_false h1]
    by_cases q1 : a < 128
    · rw [decide_eq_true q1, decide_eq_true (show a ≤ 127 by omega)]; exact ⟨1, 1, rfl, rfl, rfl⟩
    rw [decide_eq_false q1, decide_eq_false (show ¬ a ≤ 127 by omega)]
    by_cases q2 : a < 2048
    · rw [decide_eq_true q2, decide_eq_true (show a ≤ 2047 by omega)]; exact ⟨2, 2, rfl, rfl, rfl⟩
    rw [decide_eq_false q2, decide_eq_false (show ¬ a ≤ 2047 by omega)]
    have q3 : (bif decide (55296 ≤ a) then (some (decide (a ≤ 57343))) else (some false)) = some false := by
      by_cases q : 55296 ≤ a
      · rw [decide_eq_true q, decide_eq_false (show ¬ a ≤ 57343 by omega)]; rfl
      · rw [decide_eq_false q]; rfl
    rw [q3]
    by_cases q4 : a < 65536
    · rw [decide_eq_true q4, decide_eq_true (show a ≤ 65535 by omega)]; exact ⟨3, 3, rfl, rfl, rfl⟩
    rw [decide_eq_false q4, decide_eq_false (show ¬ a ≤ 65535 by omega), decide_eq_true (show a ≤ 1114111 by omega)]
    exact ⟨4, 4, rfl, rfl, rfl⟩
  by_cases h3 : a ≥ 55296
  · rw [decide_eq_true h3]
    by_cases h4 : a ≤ 57343
    · rw [decide_eq_true h4]; exact ⟨0, 0, rfl, rfl, rfl⟩
    · rw [decide_eq_false h4]; exact bytes (by omega)
  · rw [decide_eq_false h3]; exact bytes (by omega)

theorem e81 (k : Nat) (a b c : GItem) (h2 : (a.kind == 2) = false) : F81 k a = F91 k a b c := by
  obtain ⟨u, v, hu, hv, huv⟩ := x105 k a.rune
  unfold F81 F91
  simp only [t92, x104, x99, x100, hu, hv, Option.bind_some, huv, h2, cond_false]
  cases h1 : (a.kind == 1) with
  | true =>
    simp only [cond_true, beq_self_eq_true, Bool.true_and, Bool.and_true, Option.bind_some]
    cases (decide (1 ≤ a.size) && decide (a.size ≤ 67108864)) <;> cases (decide (0 ≤ a.width) && decide (a.width ≤ 1099511627776)) <;> cases (decide (0 ≤ a.height) && decide (a.height ≤ 1099511627776)) <;> cases (decide (0 ≤ a.depth) && decide (a.depth ≤ 1099511627776)) <;> cases decide (v > 0) <;> simp [bif_id]
  | false =>
  cases h3 : (a.kind == 3) with
  | true =>
    simp only [cond_true, cond_false, beq_self_eq_true, Bool.true_and, Bool.and_true, Option.bind_some, ge_iff_le]
    cases (decide (1 ≤ a.size) && decide (a.size ≤ 67108864)) <;> cases decide (0 ≤ a.width) <;> cases decide (a.width ≤ 67108864) <;> cases decide (0 ≤ a.stretch) <;> cases decide (a.stretch ≤ 67108864) <;> cases decide (0 ≤ a.shrink) <;> cases decide (a.shrink ≤ a.width) <;> simp [bif_id]
  | false =>
  cases h4 : (a.kind == 4) with
  | true =>
    simp only [cond_true, cond_false, beq_self_eq_true, Bool.true_and, Bool.and_true, Option.bind_some]
    by_cases q1 : a.value < -10000
    · rw [decide_eq_true q1, decide_eq_false (show ¬ -10000 ≤ a.value by omega)]
      cases a.flag <;> simp [bif_id]
    · rw [decide_eq_false q1, decide_eq_true (show -10000 ≤ a.value by omega)]
      by_cases q2 : a.value > 10000
      · rw [decide_eq_true q2, decide_eq_false (show ¬ a.value ≤ 10000 by omega)]
        cases a.flag <;> simp [bif_id]
      · rw [decide_eq_false q2, decide_eq_true (show a.value ≤ 10000 by omega)]
        cases a.flag with
        | false => simp
        | true =>
          cases (decide (1 ≤ a.size) && decide (a.size ≤ 67108864)) <;> cases (decide (0 ≤ a.width) && decide (a.width ≤ 1099511627776)) <;> cases (decide (0 ≤ a.height) && decide (a.height ≤ 1099511627776)) <;> cases (decide (0 ≤ a.depth) && decide (a.depth ≤ 1099511627776)) <;> cases (a.rune == 45) <;> cases decide (a.value > -10000) <;> simp [bif_id]
  | false => rfl

theorem e80 (k : Nat) (L : List GItem) (i : Nat) (y : GItem) (hl : L.length ≤ 4096) (hy : L[i]? = some y) (h2 : (y.kind == 2) = true) : F80 k L i = F91 k y (prevOf L i) (nextOf L i) := by
  have hi := lt_of_get hy
  have hy' : L[(i : Int).toNat]? = some y := by rw [show (i : Int).toNat = i by omega]; exact hy
  have e : y.kind = 2 := eq_of_beq h2
  unfold F80 F91
  simp only [bindI_eq (by omega : 0 ≤ (i : Int)) hy', t92, h2, show (y.kind == 1) = false by rw [e]; rfl, show (y.kind == 3) = false by rw [e]; rfl, show (y.kind == 4) = false by rw [e]; rfl, cond_true, cond_false, Option.bind_some]
  rw [w_id (n := (i : Int) + 1) (by omega) (by omega)]
  by_cases h0 : i = 0
  · subst h0
    have : prevOf L 0 = GItem.mk 0 ByteArray.empty 0 0 0 0 0 0 0 0 false 0 0 := rfl
    rw [this]; rfl
  · have h0' : ((i : Int) == 0) = false := by rw [beq_eq_false_iff_ne]; omega
    rw [h0', w_id (n := (i : Int) - 1) (by omega) (by omega)]
    obtain ⟨p, hp⟩ := at_of (L := L) (i := (i : Int) - 1) (by omega) (by omega)
    have ep : prevOf L i = p := by
      unfold prevOf
      rw [if_pos (by omega)]
      rw [show ((i : Int) - 1).toNat = i - 1 by omega] at hp
      rw [hp]; rfl
    rw [ep]
    by_cases h1 : i + 1 < L.length
    · rw [decide_eq_false (show ¬ ((i : Int) + 1 ≥ L.length) by omega)]
      obtain ⟨n, hn⟩ := at_of (L := L) (i := (i : Int) + 1) (by omega) (by omega)
      have en : nextOf L i = n := by
        unfold nextOf
        rw [show ((i : Int) + 1).toNat = i + 1 by omega] at hn
        rw [hn]; rfl
      rw [en]
      simp only [bindI_eq (by omega : 0 ≤ (i : Int) - 1) hp, bindI_eq (by omega : 0 ≤ (i : Int) + 1) hn, cond_false, Option.bind_some, e]
      cases hk1 : (p.kind == 1) with
      | false => simp [bne, hk1]
      | true =>
        cases hk2 : (n.kind == 1) with
        | false => simp [bne, hk1, hk2]
        | true =>
          simp only [bne, hk1, hk2, Bool.not_true, cond_true, cond_false, Option.bind_some, ge_iff_le]
          cases (y.width == 0) <;> cases decide (y.width ≤ 1099511627776) <;> cases decide (w (0 - if n.width < p.width then n.width else p.width) ≤ y.width) <;> simp [bif_id]
    · rw [decide_eq_true (show ((i : Int) + 1 ≥ L.length) by omega)]
      have en : nextOf L i = GItem.mk 0 ByteArray.empty 0 0 0 0 0 0 0 0 false 0 0 := by
        unfold nextOf
        rw [List.getElem?_eq_none (by omega)]; rfl
      rw [en]
      cases (p.kind == 1) <;> rfl



theorem hprev (L : List GItem) (i : Nat) (hi : i < L.length) (hl : L.length ≤ 4096) {β : Type} (f : Int × ByteArray × Int × Int × Int × Int × Int × Int × Int × Int × Bool × Int × Int → Option β) : (Option.bind (bif decide ((i : Int) > 0) then (bindI L (w ((i : Int) - 1)) fun y22 => some (y22.kind, y22.font, y22.size, y22.rune, y22.width, y22.height, y22.depth, y22.stretch, y22.shrink, y22.value, y22.flag, y22.from_, y22.to_)) else (some (0, ByteArray.empty, 0, 0, 0, 0, 0, 0, 0, 0, false, 0, 0))) f) =
    f ((prevOf L i).kind, (prevOf L i).font, (prevOf L i).size, (prevOf L i).rune, (prevOf L i).width, (prevOf L i).height, (prevOf L i).depth, (prevOf L i).stretch, (prevOf L i).shrink, (prevOf L i).value, (prevOf L i).flag, (prevOf L i).from_, (prevOf L i).to_) := by
  by_cases h0 : 0 < i
  · rw [decide_eq_true (show (i : Int) > 0 by omega), w_id (by omega) (by omega)]
    obtain ⟨z, hz⟩ := at_of (L := L) (i := (i : Int) - 1) (by omega) (by omega)
    rw [cond_true, bindI_eq (by omega) hz]
    unfold prevOf
    rw [if_pos h0]
    rw [show ((i : Int) - 1).toNat = i - 1 by omega] at hz
    rw [hz]; rfl
  · rw [decide_eq_false (show ¬ (i : Int) > 0 by omega), cond_false]
    unfold prevOf
    rw [if_neg h0]; rfl

theorem hnext (L : List GItem) (i : Nat) (hi : i < L.length) (hl : L.length ≤ 4096) {β : Type} (f : Int × ByteArray × Int × Int × Int × Int × Int × Int × Int × Int × Bool × Int × Int → Option β) : (Option.bind (bif decide ((w ((i : Int) + 1)) < (L.length : Int)) then (bindI L (w ((i : Int) + 1)) fun y22 => some (y22.kind, y22.font, y22.size, y22.rune, y22.width, y22.height, y22.depth, y22.stretch, y22.shrink, y22.value, y22.flag, y22.from_, y22.to_)) else (some (0, ByteArray.empty, 0, 0, 0, 0, 0, 0, 0, 0, false, 0, 0))) f) =
    f ((nextOf L i).kind, (nextOf L i).font, (nextOf L i).size, (nextOf L i).rune, (nextOf L i).width, (nextOf L i).height, (nextOf L i).depth, (nextOf L i).stretch, (nextOf L i).shrink, (nextOf L i).value, (nextOf L i).flag, (nextOf L i).from_, (nextOf L i).to_) := by
  rw [w_id (n := (i : Int) + 1) (by omega) (by omega)]
  by_cases h0 : i + 1 < L.length
  · rw [decide_eq_true (show (i : Int) + 1 < L.length by omega)]
    obtain ⟨z, hz⟩ := at_of (L := L) (i := (i : Int) + 1) (by omega) (by omega)
    rw [cond_true, bindI_eq (by omega) hz]
    unfold nextOf
    rw [show ((i : Int) + 1).toNat = i + 1 by omega] at hz
    rw [hz]; rfl
  · rw [decide_eq_false (show ¬ (i : Int) + 1 < L.length by omega), cond_false]
    unfold nextOf
    rw [List.getElem?_eq_none (by omega)]; rfl

theorem e64_l1 (k : Nat) (L : List GItem) (hl : L.length ≤ 4096) : ∀ (j : Nat) (v : Int) (i : Nat), i ≤ L.length → F40_l1 k L j v i = F64_l1 k L j v i
  | 0, v, i, h1 => rfl
  | j + 1, v, i, h1 => by
    unfold F40_l1 F64_l1
    by_cases hi : (i : Int) < L.length
    · rw [decide_eq_true hi]
      obtain ⟨y, hy⟩ := at_of (L := L) (i := (i : Int)) (by omega) hi
      have hb := fun {β : Type} (f : GItem → Option β) => bindI_eq (f := f) (by omega : 0 ≤ (i : Int)) hy
      have hy' : L[i]? = some y := by rw [show (i : Int).toNat = i by omega] at hy; exact hy
      have ih : ∀ v', F40_l1 k L j v' (w ((i : Int) + 1)) = F64_l1 k L j v' (w ((i : Int) + 1)) := by
        intro v'
        rw [w_id (n := (i : Int) + 1) (by omega) (by omega)]
        exact e64_l1 k L hl j v' (i + 1) (by omega)
      rw [cond_true, cond_true]
      simp only [hb, ih, hprev L i (by omega) hl, hnext L i (by omega) hl]
      obtain ⟨r, hr, _⟩ := t91 k y (prevOf L i) (nextOf L i)
      cases h2 : (y.kind == 2) with
      | true =>
        rw [e80 k L i y hl hy' h2, hr]
        simp only [Option.bind_some, cond_true]
      | false =>
        rw [e81 k y (prevOf L i) (nextOf L i) h2, hr]
        simp only [Option.bind_some, cond_false, t92]
        cases r with
        | false => rfl
        | true =>
          simp only [Bool.not_true, cond_false, Option.bind_some]
          cases decide (y.from_ < v) with
          | true => rfl
          | false =>
            simp only [cond_false, Option.bind_some]
            by_cases q1 : y.to_ < y.from_
            · rw [decide_eq_true q1, decide_eq_false (show ¬ y.from_ ≤ y.to_ by omega)]; rfl
            · rw [decide_eq_false q1, decide_eq_true (show y.from_ ≤ y.to_ by omega)]
              by_cases q2 : y.to_ > 65536
              · rw [decide_eq_true q2, decide_eq_false (show ¬ y.to_ ≤ 65536 by omega)]; rfl
              · rw [decide_eq_false q2, decide_eq_true (show y.to_ ≤ 65536 by omega)]; rfl
    · rw [decide_eq_false hi]; rfl

theorem x79 (k : Nat) (y : GItem) : F79 k y = some (y.kind == 4 && decide (y.value ≤ -10000)) := by
  unfold F79
  cases (y.kind == 4) <;> rfl

theorem e64 (k : Nat) (L : List GItem) (hk : L.length < k) : ∃ r s, F64 k L = some r ∧ F40 k L = some s ∧ (r != 0) = (s != 0) := by
  unfold F64 F40
  cases hc : decide ((L.length : Int) > 4096) with
  | true => exact ⟨130, 130, rfl, rfl, rfl⟩
  | false =>
    have hl : ¬ (L.length : Int) > 4096 := of_decide_eq_false hc
    obtain ⟨q, h1, h2⟩ := t64_l1 k L (by omega) k 0 0 (by omega) (by omega)
    have h1' : F64_l1 k L k 0 0 = some q := h1
    have h3' : F40_l1 k L k 0 0 = some q := (e64_l1 k L (by omega) k 0 0 (by omega)).trans h1
    rw [cond_false, cond_false, h1', h3']
    by_cases h0 : 0 < L.length
    · obtain ⟨y, hy⟩ := at_of (L := L) (i := (L.length : Int) - 1) (by omega) (by omega)
      have hb := fun {β : Type} (f : GItem → Option β) => bindI_eq (f := f) (by omega : 0 ≤ (L.length : Int) - 1) hy
      rw [decide_eq_true (show (L.length : Int) > 0 by omega), w_id (n := (L.length : Int) - 1) (by omega) (by omega)]
      simp only [hb, x79, cond_true, Option.bind_some]
      cases q with
      | inr n =>
        have hn : (n != 0) = true := by
          rw [bne_iff_ne]
          intro e
          subst e
          exact t64_no k L k 0 0 h1'
        cases (!(y.kind == 4 && decide (y.value ≤ -10000))) with
        | true => exact ⟨n, 1, rfl, rfl, hn⟩
        | false => exact ⟨n, n, rfl, rfl, rfl⟩
      | inl u =>
        have g := (h2 rfl) _ y (Nat.zero_le _) hy
        cases q4 : (y.kind == 4) with
        | false => exact ⟨1, 1, by simp [bne, q4], by simp, rfl⟩
        | true =>
          have hv := g.val (eq_of_beq q4)
          by_cases q5 : y.value = -10000
          · exact ⟨0, 0, by simp [bne, q4, q5], by simp [q5], rfl⟩
          · have q5' : (y.value == -10000) = false := by rw [beq_eq_false_iff_ne]; exact q5
            exact ⟨1, 1, by simp [bne, q4, q5'], by rw [decide_eq_false (show ¬ y.value ≤ -10000 by omega)]; rfl, rfl⟩
    · rw [decide_eq_false (show ¬ (L.length : Int) > 0 by omega)]
      cases q with
      | inr n => exact ⟨n, n, rfl, rfl, rfl⟩
      | inl u => exact ⟨0, 0, rfl, rfl, rfl⟩

theorem x72 (k : Nat) (a : Int) : F72 k a = some (decide (1 ≤ a) && decide (a ≤ 536870912)) := by
  unfold F72
  have e : decide (a ≥ 1) = decide (1 ≤ a) := rfl
  rw [e]
  cases decide (1 ≤ a) <;> rfl

theorem bytes_self (x : ByteArray) : (x == x) = true := by
  first | exact beq_self_eq_true x | (obtain ⟨d⟩ := x; exact beq_self_eq_true d) | (show decide (x = x) = true; simp) | (cases x; simp [BEq.beq])

def mark : GItem := GItem.mk (-77) ByteArray.empty 0 0 0 0 0 0 0 0 false 0 0

theorem t29 (k : Nat) (L : List GItem) (hl : L.length ≤ 2147483647) : F29 k L = some (L ++ [mark]) := by
  unfold F29 bindA
  rw [if_pos (by simp; omega)]
  dsimp only
  rw [if_pos (by simp; omega)]
  rfl

theorem t32_l1 (k : Nat) (L : List GItem) (hl : L.length ≤ 2147483647) : ∀ (j i : Nat), i ≤ L.length → L.length < j + i → F32_l1 k (L ++ [mark]) L j i = some (.inl ())
  | 0, i, h1, h2 => by omega
  | j + 1, i, h1, h2 => by
    unfold F32_l1
    by_cases hi : (i : Int) < L.length
    · rw [decide_eq_true hi]
      obtain ⟨y, hy⟩ := at_of (L := L) (i := (i : Int)) (by omega) hi
      have hy' : (L ++ [mark])[(i : Int).toNat]? = some y := by rw [List.getElem?_append_left (by omega)]; exact hy
      rw [cond_true, bindI_eq (by omega) hy', bindI_eq (by omega) hy, w_id (n := (i : Int) + 1) (by omega) (by omega)]
      have := t32_l1 k L hl j (i + 1) (by omega) (by omega)
      simp only [beq_self_eq_true, bytes_self, Bool.and_self, Bool.not_true, cond_false]
      exact this
    · rw [decide_eq_false hi]; rfl

theorem t32 (k : Nat) (L : List GItem) (hl : L.length ≤ 2147483647) (hk : L.length < k) : F32 k (L ++ [mark]) L = some true := by
  unfold F32
  have h1 : (((L ++ [mark]).length : Int) != (w ((L.length : Int) + 1))) = false := by
    rw [w_id (by omega) (by omega)]
    simp
  have h2 : (L ++ [mark])[(L.length : Int).toNat]? = some mark := by simp
  have h3 := t32_l1 k L hl k 0 (by omega) (by omega)
  have h3' : F32_l1 k (L ++ [mark]) L k 0 = some (.inl ()) := h3
  rw [h1, bindI_eq (by omega) h2, h3']
  rfl

/-- no forced break: place by place -/
theorem free_l1 (k : Nat) (L : List GItem) (hl : L.length ≤ 4096) : ∀ (j i : Nat), i ≤ L.length → L.length < j + i → (∀ (t : Nat) (y : GItem), i ≤ t → L[t]? = some y → (y.kind == 4 && decide (y.value ≤ -10000)) = false) → F94_70_l1 k L j i = some (.inl ())
  | 0, i, h1, h2, h => by omega
  | j + 1, i, h1, h2, h => by
    unfold F94_70_l1
    by_cases hi : (i : Int) < L.length
    · obtain ⟨y, hy⟩ := at_of (L := L) (i := (i : Int)) (by omega) hi
      rw [decide_eq_true hi, cond_true, bindI_eq (by omega) hy, x70, h (i : Int).toNat y (by omega) hy, Option.bind_some, cond_false, w_id (n := (i : Int) + 1) (by omega) (by omega)]
      exact free_l1 k L hl j (i + 1) (by omega) (by omega) fun t y ht => h t y (by omega)
    · rw [decide_eq_false hi]; rfl

theorem unfree_l1 (k : Nat) (L : List GItem) (hl : L.length ≤ 4096) : ∀ (j i : Nat), F94_70_l1 k L j i = some (.inl ()) → ∀ (t : Nat) (y : GItem), i ≤ t → L[t]? = some y → (y.kind == 4 && decide (y.value ≤ -10000)) = false
  | 0, i, h, t, y, ht, hy => by cases h
  | j + 1, i, h, t, y, ht, hy => by
    have htl := lt_of_get hy
    unfold F94_70_l1 at h
    obtain ⟨z, hz⟩ := at_of (L := L) (i := (i : Int)) (by omega) (by omega)
    rw [decide_eq_true (show (i : Int) < L.length by omega), cond_true, bindI_eq (by omega) hz, x70, Option.bind_some, w_id (n := (i : Int) + 1) (by omega) (by omega)] at h
    cases hq : (z.kind == 4 && decide (z.value ≤ -10000)) with
    | true => rw [hq] at h; cases h
    | false =>
      rw [hq, cond_false] at h
      by_cases hti : t = i
      · subst hti
        rw [show (t : Int).toNat = t by omega] at hz
        rw [hy] at hz; cases hz; exact hq
      · exact unfree_l1 k L hl j (i + 1) h t y (by omega) hy

theorem no_inr (k : Nat) (L : List GItem) : ∀ (j : Nat) (i n : Int), 0 ≤ i → i + j < 9223372036854775807 → F94_70_l1 k L j i = some (.inr n) → 0 ≤ n
  | 0, i, n, h0, hb, h => by cases h
  | j + 1, i, n, h0, hb, h => by
    unfold F94_70_l1 at h
    cases hc : decide (i < (L.length : Int)) with
    | false => rw [hc] at h; cases h
    | true =>
      rw [hc, cond_true] at h
      obtain ⟨y, _, _, h⟩ := bindI_some h
      obtain ⟨b, _, h⟩ := bind_some h
      cases b with
      | true => cases h; exact h0
      | false =>
        rw [cond_false, w_id (n := i + 1) (by omega) (by omega)] at h
        exact no_inr k L j (i + 1) n (by omega) (by omega) h

theorem free_of (k : Nat) (L : List GItem) (hl : L.length ≤ 4096) (hk : L.length < k) (h : ∀ (t : Nat) (y : GItem), L[t]? = some y → (y.kind == 4 && decide (y.value ≤ -10000)) = false) : F69_70 k L = some false := by
  unfold F69_70 F94_70
  have := free_l1 k L hl k 0 (by omega) (by omega) fun t y _ => h t y
  have h' : F94_70_l1 k L k 0 = some (.inl ()) := this
  rw [h']; rfl

theorem unfree (k : Nat) (L : List GItem) (hl : L.length ≤ 4096) (hk : (k : Int) < 9223372036854775807) (h : F69_70 k L = some false) : ∀ (t : Nat) (y : GItem), L[t]? = some y → (y.kind == 4 && decide (y.value ≤ -10000)) = false := by
  unfold F69_70 F94_70 at h
  obtain ⟨r, hr, h⟩ := bind_some h
  obtain ⟨q, hq, hr⟩ := bind_some hr
  cases q with
  | inl u => exact fun t y hy => unfree_l1 k L hl k 0 hq t y (by omega) hy
  | inr n =>
    have := no_inr k L k 0 n (by omega) (by omega) hq
    have e : some n = some r := hr
    cases e
    have h' : some (decide (r ≥ 0)) = some false := h
    rw [decide_eq_true this] at h'
    cases h'

end
end Go.Eng.Lift

namespace Go.Eng.Lift
open Go.Proofs
noncomputable section


theorem bindA_eq {α β : Type} {n : Nat} {L M : List α} {f : List α → Option β} (h : (5 * (L.length + M.length) + 768) * n ≤ 1125899906842624) : bindA n L M f = f (L ++ M) := if_pos h

theorem e75 (k : Nat) (n lo hi : Int) (h : lo ≤ hi) : F76 k n lo hi = F75 k n lo hi := by
  unfold F75 F76
  by_cases h1 : n < lo
  · rw [decide_eq_true h1, cond_true, if_neg (show ¬ hi < n by omega), if_neg (show ¬ n > lo by omega)]
  · rw [decide_eq_false h1, cond_false]
    by_cases h2 : n > hi
    · rw [decide_eq_true h2, cond_true, if_pos (show hi < n by omega)]
      by_cases h3 : hi > lo
      · rw [if_pos h3]
      · rw [if_neg h3, show hi = lo by omega]
    · rw [decide_eq_false h2, cond_false, if_neg (show ¬ hi < n by omega)]
      by_cases h3 : n > lo
      · rw [if_pos h3]
      · rw [if_neg h3, show n = lo by omega]

theorem bindI_congr {α β : Type} {L : List α} {i : Int} {f g : α → Option β} (h : ∀ y, f y = g y) : bindI L i f = bindI L i g := by rw [show f = g from funext h]

theorem e36 (k : Nat) (L : List GItem) (a b : GLine) : F37 k L a b = F36 k L a b := by
  unfold F36 F37
  rw [e75 k b.bad 0 10000 (by decide), e75 k a.class_ 0 3 (by decide), e75 k b.class_ 0 3 (by decide)]
  refine congrArg _ (funext fun r1 => congrArg _ (funext fun v1 => ?_))
  have : ∀ y5 : GItem, (bif decide (y5.value ≥ 0) then ((F76 k y5.value 0 10000).bind fun r19 =>
some (w ((w ((w (10 + r1)) * (w (10 + r1)))) + (w (r19 * r19))))) else (bif decide (y5.value > (-10000)) then (some (w ((w ((w (10 + r1)) * (w (10 + r1)))) - (w (y5.value * y5.value))))) else (some (w ((w (10 + r1)) * (w (10 + r1))))))) =
    (Option.bind (α := Int) (bif decide (y5.value ≥ 0) then (some (w ((w ((w (10 + r1)) * (w (10 + r1)))) + (w ((if 10000 < y5.value then 10000 else y5.value) * (if 10000 < y5.value then 10000 else y5.value)))))) else (bif decide (y5.value > (-10000)) then (some (w ((w ((w (10 + r1)) * (w (10 + r1)))) - (w (y5.value * y5.value))))) else (some (w ((w (10 + r1)) * (w (10 + r1))))))) fun (v6 : Int) =>
some v6) := by
    intro y
    by_cases h : y.value ≥ 0
    · rw [decide_eq_true h, cond_true, cond_true, e75 k y.value 0 10000 (by decide)]
      unfold F75
      rw [Option.bind_some, Option.bind_some]
      by_cases h2 : 10000 < y.value
      · rw [if_pos h2]; rfl
      · rw [if_neg h2]
        by_cases h3 : y.value > 0
        · rw [if_pos h3]
        · rw [if_neg h3, show y.value = 0 by omega]
    · rw [decide_eq_false h, cond_false, cond_false]
      cases decide (y.value > -10000) <;> rfl
  rw [bindI_congr this]

/-! ### Ways -/
def frc (y : GItem) : Bool := y.kind == 4 && decide (y.value ≤ -10000)

theorem x69 (k : Nat) (L : List GItem) (hl : L.length ≤ 4096) (hk : L.length < k) (hk' : (k : Int) < 9223372036854775807) : F69_70 k L = some (L.any frc) := by
  cases h : L.any frc with
  | false =>
    refine free_of k L hl hk fun t y hy => ?_
    have := List.any_eq_false.1 h y (List.mem_of_getElem? hy)
    simpa [frc] using this
  | true =>
    obtain ⟨r, hr⟩ := t69 k L hl hk
    cases r with
    | true => exact hr
    | false =>
      have := unfree k L hl hk' hr
      obtain ⟨y, hm, hy⟩ := List.any_eq_true.1 h
      obtain ⟨t, ht, e⟩ := List.mem_iff_getElem.1 hm
      have := this t y (by rw [List.getElem?_eq_getElem ht, e])
      rw [show frc y = (y.kind == 4 && decide (y.value ≤ -10000)) from rfl, this] at hy
      cases hy

/-- no line must end between two places -/
def Free (L : List GItem) (lo hi : Int) : Prop := ∀ (t : Nat) (y : GItem), lo < t → (t : Int) < hi → L[t]? = some y → frc y = false

theorem any_mid {L : List GItem} {lo hi : Int} (h0 : -1 ≤ lo) (h1 : hi ≤ L.length) : (((L.take hi.toNat).drop (lo + 1).toNat).any frc = false) ↔ Free L lo hi := by
  rw [List.any_eq_false]
  constructor
  · intro h t y a b hy
    have := h y (by
      refine List.mem_of_getElem? (i := t - (lo + 1).toNat) ?_
      rw [List.getElem?_drop, List.getElem?_take, if_pos (by omega), show (lo + 1).toNat + (t - (lo + 1).toNat) = t by omega]
      exact hy)
    simpa using this
  · intro h y hm
    obtain ⟨i, e⟩ := List.mem_iff_getElem?.1 hm
    rw [List.getElem?_drop, List.getElem?_take] at e
    split at e
    · rename_i hlt
      have := h _ y (by omega) (by omega) e
      rw [this]; simp
    · cases e

theorem way_eq (k : Nat) (L : List GItem) (bs : List Int) (hl : L.length ≤ 4096) (hf : ∀ (t : Nat) (y : GItem), L[t]? = some y → Fine y) (hk : L.length < k) (hk' : (k : Int) < 9223372036854775807) (hb : bs.length < k) :
    ∀ (j m i : Nat) (last : Int) (j' : Nat), L.length < j + i → i ≤ L.length → -1 ≤ last → last < i → m ≤ bs.length → bs.length < j' + m → Free L last i → (∀ b, bs[m]? = some b → b ≤ last ∨ (i : Int) ≤ b) →
      ∃ r, (Option.bind (α := (Int) ⊕ (Bool)) (F78_l1 k L bs j m i) (Sum.elim (fun (v1 : Int) => some (v1 == (bs.length : Int))) some)) = some r ∧
        (Option.bind (α := (Int) ⊕ (Bool)) (F77_l1 k L bs j' last m) (Sum.elim (fun (v1 : Int) => bindS L (w (v1 + 1)) (L.length : Int) fun l13 => (F69_70 k l13).bind fun r32 => some (!r32)) some)) = some r
  | 0, m, i, last, j', h1, h2, _, _, _, _, _, _ => by omega
  | j + 1, m, i, last, 0, h1, h2, h3, h4, h5, h6, h7, h8 => by omega
  | j + 1, m, i, last, j' + 1, h1, h2, h3, h4, h5, h6, h7, h8 => by
    have mid : ∀ (lo hi : Int), -1 ≤ lo → hi ≤ L.length → lo + 1 ≤ hi → ∀ {β : Type} (f : Bool → Option β), (bindS L (w (lo + 1)) hi fun l => (F69_70 k l).bind f) = f (((L.take hi.toNat).drop (lo + 1).toNat).any frc) := by
      intro lo hi a b c β f
      rw [w_id (by omega) (by omega)]
      unfold bindS
      rw [if_pos ⟨by omega, by omega, by omega⟩]
      dsimp only
      rw [x69 k _ (by simp; omega) (by simp; omega) hk', Option.bind_some]
    -- what the program says where a forced break is passed, or none of the breaks is left
    have stop : (∃ (t : Nat) (y : GItem), last < (t : Int) ∧ t ≤ i ∧ L[t]? = some y ∧ frc y = true ∧ (∀ b, bs[m]? = some b → b ≤ last ∨ (t : Int) < b)) →
        (Option.bind (α := (Int) ⊕ (Bool)) (F77_l1 k L bs (j' + 1) last m) (Sum.elim (fun (v1 : Int) => bindS L (w (v1 + 1)) (L.length : Int) fun l13 => (F69_70 k l13).bind fun r32 => some (!r32)) some)) = some false := by
      rintro ⟨t, y, a1, a2, a3, a4, a5⟩
      unfold F77_l1
      by_cases hm : m < bs.length
      · obtain ⟨b, hb⟩ := at_of (L := bs) (i := (m : Int)) (by omega) (by omega)
        have hb' : bs[m]? = some b := by rw [show (m : Int).toNat = m by omega] at hb; exact hb
        rw [decide_eq_true (show (m : Int) < bs.length by omega), cond_true, bindI_eq (by omega) hb]
        rcases a5 b hb' with q | q
        · rw [decide_eq_true q]; rfl
        rw [decide_eq_false (show ¬ b ≤ last by omega)]
        by_cases h9 : b ≥ L.length
        · rw [decide_eq_true h9]; rfl
        rw [decide_eq_false h9]
        obtain ⟨c, hc⟩ := t68 k L b (by omega) (by omega) hl
        rw [hc]
        cases c with
        | false => rfl
        | true =>
          have : ((L.take b.toNat).drop (last + 1).toNat).any frc = true := by
            cases e : ((L.take b.toNat).drop (last + 1).toNat).any frc with
            | true => rfl
            | false => rw [(any_mid h3 (by omega)).1 e t y a1 q a3] at a4; cases a4
          simp only [cond_false, Option.bind_some, Bool.not_true, mid last b h3 (by omega) (by omega), this, cond_true]
          rfl
      · rw [decide_eq_false (show ¬ (m : Int) < bs.length by omega), cond_false]
        have : ((L.take (L.length : Int).toNat).drop (last + 1).toNat).any frc = true := by
          cases e : ((L.take (L.length : Int).toNat).drop (last + 1).toNat).any frc with
          | true => rfl
          | false => rw [(any_mid h3 (by omega)).1 e t y a1 (by have := lt_of_get a3; omega) a3] at a4; cases a4
        simp only [Option.bind_some, Sum.elim_inl, mid last (L.length : Int) h3 (by omega) (by omega), this]
        rfl
    by_cases hi : i < L.length
    · obtain ⟨y, hy⟩ := at_of (L := L) (i := (i : Int)) (by omega) (by omega)
      have hy' : L[i]? = some y := by rw [show (i : Int).toNat = i by omega] at hy; exact hy
      have hfrc : F96 k L i = some (frc y) := by rw [x96 k L i y (by omega) hy, same_pen (hf i y hy')]; rfl
      obtain ⟨c, hc⟩ := t68 k L i (by omega) (by omega) hl
      have step : (∀ b, bs[m]? = some b → b ≠ i) → ∃ r, (Option.bind (α := (Int) ⊕ (Bool)) (bif frc y then (some (.inr false)) else (F78_l1 k L bs j m (i + 1 : Nat))) (Sum.elim (fun (v1 : Int) => some (v1 == (bs.length : Int))) some)) = some r ∧
        (Option.bind (α := (Int) ⊕ (Bool)) (F77_l1 k L bs (j' + 1) last m) (Sum.elim (fun (v1 : Int) => bindS L (w (v1 + 1)) (L.length : Int) fun l13 => (F69_70 k l13).bind fun r32 => some (!r32)) some)) = some r := by
        intro hne
        have h8' : ∀ b, bs[m]? = some b → b ≤ last ∨ ((i + 1 : Nat) : Int) ≤ b := fun b hb' => by
          have := h8 b hb'; have := hne b hb'; omega
        cases e : frc y with
        | true => exact ⟨false, rfl, stop ⟨i, y, h4, Nat.le_refl _, hy', e, fun b hb' => by have := h8' b hb'; omega⟩⟩
        | false =>
          rw [cond_false]
          refine way_eq k L bs hl hf hk hk' hb j m (i + 1) last (j' + 1) (by omega) (by omega) h3 (by omega) h5 h6 (fun t z a b hz => ?_) h8'
          by_cases q : t = i
          · subst q; rw [hy'] at hz; cases hz; exact e
          · exact h7 t z a (by omega) hz
      have wi : w ((i : Int) + 1) = ((i + 1 : Nat) : Int) := by rw [w_id (by omega) (by omega)]; omega
      unfold F78_l1
      rw [decide_eq_true (show (i : Int) < L.length by omega), cond_true]
      by_cases hm : m < bs.length
      · obtain ⟨b, hb2⟩ := at_of (L := bs) (i := (m : Int)) (by omega) (by omega)
        have hb' : bs[m]? = some b := by rw [show (m : Int).toNat = m by omega] at hb2; exact hb2
        rw [decide_eq_true (show (m : Int) < bs.length by omega), cond_true, bindI_eq (by omega) hb2]
        by_cases hq : b = i
        · -- a break
          have h9 : (b == (i : Int)) = true := by rw [hq]; exact beq_self_eq_true _
          rw [h9]
          simp only [Option.bind_some, cond_true, e68, hc]
          cases c with
          | false =>
            refine ⟨false, rfl, ?_⟩
            unfold F77_l1
            rw [decide_eq_true (show (m : Int) < bs.length by omega), cond_true, bindI_eq (by omega) hb2, decide_eq_false (show ¬ b ≤ last by omega), decide_eq_false (show ¬ b ≥ L.length by omega), hq, hc]
            rfl
          | true =>
            have fr : ((L.take b.toNat).drop (last + 1).toNat).any frc = false := (any_mid h3 (by omega)).2 (by rw [hq]; exact h7)
            have e77 : F77_l1 k L bs (j' + 1) last m = F77_l1 k L bs j' i (m + 1 : Nat) := by
              conv => lhs; unfold F77_l1
              rw [decide_eq_true (show (m : Int) < bs.length by omega), cond_true, bindI_eq (by omega) hb2, decide_eq_false (show ¬ b ≤ last by omega), decide_eq_false (show ¬ b ≥ L.length by omega)]
              have hc' : F68 k L b = some true := by rw [hq]; exact hc
              rw [hc']
              simp only [cond_false, Option.bind_some, Bool.not_true, mid last b h3 (by omega) (by omega), fr]
              rw [hq, w_id (n := (m : Int) + 1) (by omega) (by omega)]
              rfl
            rw [e77]
            simp only [Bool.not_true, cond_false, Option.bind_some, Sum.elim_inl]
            rw [wi, w_id (n := (m : Int) + 1) (by omega) (by omega)]
            exact way_eq k L bs hl hf hk hk' hb j (m + 1) (i + 1) i j' (by omega) (by omega) (by omega) (by omega) (by omega) (by omega) (fun t z a b' hz => by omega) (fun b' hb3 => by omega)
        · have h9 : (b == (i : Int)) = false := by rw [beq_eq_false_iff_ne]; exact hq
          rw [h9]
          simp only [Option.bind_some, cond_false, hfrc]
          obtain ⟨r, r1, r2⟩ := step (fun b' hb3 => by rw [hb'] at hb3; cases hb3; exact hq)
          refine ⟨r, ?_, r2⟩
          rw [← r1, ← wi]
          cases frc y <;> rfl
      · rw [decide_eq_false (show ¬ (m : Int) < bs.length by omega), cond_false]
        simp only [Option.bind_some, cond_false, hfrc]
        obtain ⟨r, r1, r2⟩ := step (fun b' hb3 => by have := lt_of_get hb3; omega)
        refine ⟨r, ?_, r2⟩
        rw [← r1, ← wi]
        cases frc y <;> rfl
    · have hi' : i = L.length := by omega
      unfold F78_l1 F77_l1
      rw [decide_eq_false (show ¬ (i : Int) < L.length by omega), cond_false]
      by_cases hm : m < bs.length
      · obtain ⟨b, hb2⟩ := at_of (L := bs) (i := (m : Int)) (by omega) (by omega)
        have hb' : bs[m]? = some b := by rw [show (m : Int).toNat = m by omega] at hb2; exact hb2
        rw [decide_eq_true (show (m : Int) < bs.length by omega), cond_true, bindI_eq (by omega) hb2]
        have e0 : ((m : Int) == (bs.length : Int)) = false := by rw [beq_eq_false_iff_ne]; omega
        refine ⟨false, by simp only [Option.bind_some, Sum.elim_inl, e0], ?_⟩
        rcases h8 b hb' with q | q
        · rw [decide_eq_true q]; rfl
        · rw [decide_eq_false (show ¬ b ≤ last by omega), decide_eq_true (show b ≥ L.length by omega)]; rfl
      · rw [decide_eq_false (show ¬ (m : Int) < bs.length by omega), cond_false]
        have e0 : ((m : Int) == (bs.length : Int)) = true := by rw [beq_iff_eq]; omega
        have fr : ((L.take (L.length : Int).toNat).drop (last + 1).toNat).any frc = false := (any_mid h3 (by omega)).2 (by rw [← hi']; exact h7)
        refine ⟨true, by simp only [Option.bind_some, Sum.elim_inl, e0], ?_⟩
        simp only [Option.bind_some, Sum.elim_inl, mid last (L.length : Int) h3 (by omega) (by omega), fr]
        rfl

theorem t36 (k : Nat) (L : List GItem) (a b : GLine) : ∃ r, F36 k L a b = some r := by
  have hI : ∀ (i : Int) {β : Type} (f : GItem → Option β), 0 ≤ i → i < L.length → (∀ y, ∃ r, f y = some r) → ∃ r, bindI L i f = some r := by
    intro i β f h1 h2 h3
    obtain ⟨y, hy⟩ := at_of (L := L) (i := i) h1 h2
    rw [bindI_eq h1 hy]; exact h3 y
  have hB : ∀ {β γ : Type} (x : Option β) (f : β → Option γ), (∃ r, x = some r) → (∀ v, ∃ r, f v = some r) → ∃ r, Option.bind x f = some r := by
    rintro β γ x f ⟨r, rfl⟩ h
    exact h r
  have h75 : ∀ x y z, ∃ r, F75 k x y z = some r := fun x y z => ⟨_, rfl⟩
  have fin : ∀ (v1 r1 : Int), (∀ z, z = v1 → True) → True := fun _ _ _ => trivial
  unfold F36
  refine hB _ _ (h75 _ _ _) fun r1 => ?_
  have rest : ∀ v4 : Int, ∃ r, (Option.bind (α := Int × Int) (bif decide (a.first ≥ 0) then ((F75 k a.class_ 0 3).bind fun r27 =>
Option.bind (α := Bool) (bif a.hyphen then (some b.hyphen) else (some false)) fun (v9 : Bool) =>
bif v9 then (some (w (v4 + 3000), r27)) else (some (v4, r27))) else (some (v4, 1))) fun (v7, v8) =>
(F75 k b.class_ 0 3).bind fun r35 =>
Option.bind (α := Bool) (bif decide ((w (v8 - r35)) > 1) then (some true) else (some (decide ((w (v8 - r35)) < (-1))))) fun (v10 : Bool) =>
Option.bind (α := Int) (bif v10 then (some (w (v7 + 3000))) else (some v7)) fun (v11 : Int) =>
some v11) = some r := by
    intro v4
    refine hB _ _ ?_ fun (v7, v8) => ?_
    · cases decide (a.first ≥ 0) with
      | false => exact ⟨_, rfl⟩
      | true =>
        refine hB _ _ ?_ fun v9 => ?_
        · cases a.hyphen <;> exact ⟨_, rfl⟩
        · cases v9 <;> exact ⟨_, rfl⟩
    · refine hB _ _ (h75 _ _ _) fun r35 => hB _ _ ?_ fun v10 => hB _ _ ?_ fun v11 => ⟨_, rfl⟩
      · cases decide ((w (v8 - r35)) > 1) <;> exact ⟨_, rfl⟩
      · cases v10 <;> exact ⟨_, rfl⟩
  by_cases h1 : b.break_ ≥ 0 ∧ b.break_ < L.length
  · rw [decide_eq_true h1.1, decide_eq_true h1.2, cond_true, cond_true]
    refine hB _ _ ?_ fun v1 => hB _ _ ?_ fun v4 => rest v4
    · exact hB _ _ (hI _ _ h1.1 h1.2 fun y => ⟨_, rfl⟩) fun v2 => ⟨_, rfl⟩
    · cases v1 with
      | false => exact ⟨_, rfl⟩
      | true =>
        refine hI _ _ h1.1 h1.2 fun y => hB _ _ ?_ fun v6 => ⟨_, rfl⟩
        cases decide (y.value ≥ 0) with
        | true => exact ⟨_, rfl⟩
        | false => cases decide (y.value > -10000) <;> exact ⟨_, rfl⟩
  · have e' : (bif decide (b.break_ ≥ 0) then (Option.bind (α := Bool) (bif decide (b.break_ < (L.length : Int)) then (bindI L b.break_ fun y3 =>
some (y3.kind == 4)) else (some false)) fun (v2 : Bool) =>
some v2) else (some false)) = some false := by
      by_cases h2 : b.break_ ≥ 0
      · rw [decide_eq_true h2, decide_eq_false (show ¬ b.break_ < L.length by omega)]; rfl
      · rw [decide_eq_false h2]; rfl
    rw [e']
    exact rest _

theorem cost_l1 (k : Nat) (L : List GItem) (a1 a2 : Int) (bs : List Int) (hl : L.length ≤ 4096) (hk : L.length < k) (hk' : (k : Int) < 9223372036854775807) (hf : ∀ (t : Nat) (y : GItem), L[t]? = some y → Fine y) (h1 : 1 ≤ a1) (h1' : a1 ≤ 536870912) (hb : bs.length < k) :
    ∀ (j : Nat) (last : Int) (m : Nat) (c t : Int) (x : GLine), -1 ≤ last → m ≤ bs.length → bs.length < j + m → (∃ v, F77_l1 k L bs j last m = some (.inl v)) →
      ∃ r, F38_l1 k L a1 a2 bs j last m c t x.first x.last x.break_ x.natural x.stretch x.shrink x.short x.bad x.class_ x.over_ x.hyphen x.end_ x.height x.depth = some r ∧
        F39_l1 k L a1 a2 bs j last m c t x.first x.last x.break_ x.natural x.stretch x.shrink x.short x.bad x.class_ x.over_ x.hyphen x.end_ x.height x.depth = some r
  | 0, last, m, c, t, x, h2, h3, h4, h5 => by omega
  | j + 1, last, m, c, t, x, h2, h3, h4, h5 => by
    obtain ⟨v, hv⟩ := h5
    unfold F77_l1 at hv
    unfold F38_l1 F39_l1
    by_cases hm : m < bs.length
    · obtain ⟨b, hb2⟩ := at_of (L := bs) (i := (m : Int)) (by omega) (by omega)
      rw [decide_eq_true (show (m : Int) < bs.length by omega), cond_true, bindI_eq (by omega) hb2] at hv
      rw [decide_eq_true (show (m : Int) < bs.length by omega), cond_true, cond_true, bindI_eq (by omega) hb2, bindI_eq (by omega) hb2]
      by_cases q1 : b ≤ last
      · rw [decide_eq_true q1] at hv; cases hv
      by_cases q2 : b ≥ L.length
      · rw [decide_eq_false q1, decide_eq_true q2] at hv; cases hv
      rw [decide_eq_false q1, decide_eq_false q2] at hv
      have hv' : F77_l1 k L bs j b (m + 1 : Nat) = some (.inl v) := by
        obtain ⟨c, hc⟩ := t68 k L b (by omega) (by omega) hl
        rw [hc] at hv
        cases c with
        | false => cases hv
        | true =>
          have wi : w ((m : Int) + 1) = ((m + 1 : Nat) : Int) := by rw [w_id (by omega) (by omega)]; omega
          rw [← wi]
          rw [w_id (n := last + 1) (by omega) (by omega)] at hv
          unfold bindS at hv
          rw [if_pos ⟨by omega, by omega, by omega⟩] at hv
          simp only [cond_false, Option.bind_some, Bool.not_true] at hv
          rw [x69 k _ (by simp; omega) (by simp; omega) hk'] at hv
          cases e : ((L.take b.toNat).drop (last + 1).toNat).any frc with
          | true => rw [e] at hv; cases hv
          | false => rw [e] at hv; exact hv
      obtain ⟨r, hr, _⟩ := t71 k L a1 last b hl hk hf h1 h1' h2 (by omega) (by omega)
      rw [e74 k L a1 last b hl hk hf h1 h1' h2 (by omega) (by omega), hr, Option.bind_some, Option.bind_some]
      have wi : w ((m : Int) + 1) = ((m + 1 : Nat) : Int) := by rw [w_id (by omega) (by omega)]; omega
      have rest : ∀ c' : Int, ∃ z, ((F36 k L x r).bind fun r43 => F38_l1 k L a1 a2 bs j b (w ((m : Int) + 1)) c' (w (t + r43)) r.first r.last r.break_ r.natural r.stretch r.shrink r.short r.bad r.class_ r.over_ r.hyphen r.end_ r.height r.depth) = some z ∧
          ((F37 k L x r).bind fun r41 => bindI bs m fun y64 => F39_l1 k L a1 a2 bs j y64 (w ((m : Int) + 1)) c' (w (t + r41)) r.first r.last r.break_ r.natural r.stretch r.shrink r.short r.bad r.class_ r.over_ r.hyphen r.end_ r.height r.depth) = some z := by
        intro c'
        obtain ⟨d, hd⟩ := t36 k L x r
        rw [e36, hd, Option.bind_some, Option.bind_some, bindI_eq (by omega) hb2, wi]
        exact cost_l1 k L a1 a2 bs hl hk hk' hf h1 h1' hb j b (m + 1) c' _ r (by omega) (by omega) (by omega) ⟨v, hv'⟩
      have hcase : (bif r.over_ then (some true) else (some (decide (r.bad > a2)))) = some (r.over_ || decide (r.bad > a2)) := by cases r.over_ <;> rfl
      rw [hcase, Option.bind_some, Option.bind_some]
      generalize (r.over_ || decide (r.bad > a2)) = q
      cases q with
      | true => exact rest (w (c + 1))
      | false => exact rest c
    · rw [decide_eq_false (show ¬ (m : Int) < bs.length by omega)]
      exact ⟨_, rfl, rfl⟩

theorem e38 (k : Nat) (L : List GItem) (a1 a2 : Int) (bs : List Int) (hk : L.length < k) (hb : bs.length < k) (hk' : (k : Int) < 9223372036854775807) : ∃ r, F38 k L a1 a2 bs = some r ∧ F39 k L a1 a2 bs = some r := by
  obtain ⟨r, hr, hg⟩ := t64 k L hk
  obtain ⟨r', s, hr', hs, hrs⟩ := e64 k L hk
  rw [hr] at hr'
  cases hr'
  unfold F38 F39
  rw [hr, hs, Option.bind_some, Option.bind_some]
  by_cases h0 : r = 0
  · obtain ⟨hl, g⟩ := hg h0
    have hf : ∀ (t : Nat) (y : GItem), L[t]? = some y → Fine y := fun t y hy => fine_of g hy
    have h0' : (r != 0) = false := by rw [h0]; rfl
    rw [h0'] at hrs
    rw [h0', ← hrs]
    simp only [x72, cond_false, Option.bind_some]
    by_cases h1 : a1 < 1
    · rw [decide_eq_true h1, decide_eq_false (show ¬ 1 ≤ a1 by omega)]; exact ⟨_, rfl, rfl⟩
    rw [decide_eq_false h1, decide_eq_true (show 1 ≤ a1 by omega)]
    by_cases h2 : a1 > 536870912
    · rw [decide_eq_true h2, decide_eq_false (show ¬ a1 ≤ 536870912 by omega)]; exact ⟨_, rfl, rfl⟩
    rw [decide_eq_false h2, decide_eq_true (show a1 ≤ 536870912 by omega)]
    by_cases h3 : a2 < 0
    · rw [decide_eq_true h3]; exact ⟨_, rfl, rfl⟩
    rw [decide_eq_false h3]
    by_cases h4 : a2 > 10000
    · rw [decide_eq_true h4]; exact ⟨_, rfl, rfl⟩
    rw [decide_eq_false h4]
    obtain ⟨q, q1, q2⟩ := way_eq k L bs hl hf hk hk' hb k 0 0 (-1) k (by omega) (by omega) (by omega) (by omega) (by omega) (by omega) (fun t y a b => by omega) (fun b _ => by omega)
    have q1' : F78 k L bs = some q := q1
    have q2' : F77 k L bs = some q := q2
    simp only [cond_false, Option.bind_some, q1', q2', Bool.and_true, Bool.not_true, Bool.true_and]
    cases q with
    | false => exact ⟨_, rfl, rfl⟩
    | true =>
      have hv : ∃ v, F77_l1 k L bs k (-1) ((0 : Nat) : Int) = some (.inl v) := by
        cases e : F77_l1 k L bs k (-1) ((0 : Nat) : Int) with
        | none => rw [e] at q2; cases q2
        | some z =>
          cases z with
          | inl v => exact ⟨v, rfl⟩
          | inr b =>
            exfalso
            rw [e] at q2
            have hb : b = true := by
              simp only [Option.bind_some, Sum.elim_inr, Option.some.injEq] at q2
              exact q2
            subst hb
            have : ∀ (j : Nat) (l m : Int), F77_l1 k L bs j l m ≠ some (.inr true) := by
              intro j
              induction j with
              | zero => intro l m h; cases h
              | succ j ih =>
                intro l m h
                unfold F77_l1 at h
                cases hc : decide (m < (bs.length : Int)) with
                | false => rw [hc] at h; cases h
                | true =>
                  rw [hc, cond_true] at h
                  obtain ⟨y, _, _, h⟩ := bindI_some h
                  obtain ⟨v, _, h⟩ := bind_some h
                  cases v with
                  | true => cases h
                  | false => exact ih _ _ h
            exact this _ _ _ e
      obtain ⟨z, z1, z2⟩ := cost_l1 k L a1 a2 bs hl hk hk' hf (by omega) (by omega) hb k (-1) 0 0 0 (GLine.mk (-1) 0 0 0 0 0 0 0 0 false false false 0 0) (by omega) (by omega) (by omega) hv
      have z1' : F38_l1 k L a1 a2 bs k (-1) 0 0 0 (-1) 0 0 0 0 0 0 0 0 false false false 0 0 = some z := z1
      have z2' : F39_l1 k L a1 a2 bs k (-1) 0 0 0 (-1) 0 0 0 0 0 0 0 0 false false false 0 0 = some z := z2
      simp only [Bool.not_true, cond_false, z1', z2', Option.bind_some]
      exact ⟨_, rfl, rfl⟩
  · have h0' : (r != 0) = true := by rw [bne_iff_ne]; exact h0
    rw [h0'] at hrs
    rw [h0', ← hrs]
    exact ⟨_, rfl, rfl⟩

theorem t11_l1 (k : Nat) (bs : List Int) (x : Int) (hb : (bs.length : Int) < 9223372036854775807) : ∀ (j i : Nat), i ≤ bs.length → bs.length < j + i → F11_l1 k bs (bs ++ [x]) j true i = some true
  | 0, i, h1, h2 => by omega
  | j + 1, i, h1, h2 => by
    unfold F11_l1
    by_cases hi : i < bs.length
    · rw [decide_eq_true (show (i : Int) < bs.length by omega)]
      obtain ⟨y, hy⟩ := at_of (L := bs) (i := (i : Int)) (by omega) (by omega)
      have hy' : (bs ++ [x])[(i : Int).toNat]? = some y := by rw [List.getElem?_append_left (by omega)]; exact hy
      rw [cond_true, cond_true, bindI_eq (by omega) hy', bindI_eq (by omega) hy, w_id (n := (i : Int) + 1) (by omega) (by omega)]
      simp only [Option.bind_some, beq_self_eq_true]
      exact t11_l1 k bs x hb j (i + 1) (by omega) (by omega)
    · rw [decide_eq_false (show ¬ (i : Int) < bs.length by omega)]; rfl

/-- **What LineWays computes is true.** -/
theorem t11 (L : List GItem) (a1 a2 : Int) (bs : List Int) (hl : (L.length : Int) < 9223372036854775808) (hb : bs.length * 8 ≤ 140737488355328) : F11 (L.length + bs.length + 4) L a1 a2 bs = some true := by
  generalize hk : L.length + bs.length + 4 = k
  unfold F11
  obtain ⟨b, hb1, hb'⟩ := t27 k L hl (by omega)
  rw [hb1, Option.bind_some]
  cases b with
  | true => rfl
  | false =>
    have hn := hb' rfl
    obtain ⟨r, r1, r2⟩ := e38 k L a1 a2 bs (by omega) (by omega) (by omega)
    have ht : (((L ++ [mark]).take (L.length : Int).toNat).drop (0 : Int).toNat) = L := by simp
    have ht2 : (((bs ++ [-77]).take (bs.length : Int).toNat).drop (0 : Int).toNat) = bs := by simp
    rw [cond_false, t29 _ L hn, Option.bind_some, bindA_eq (by simp; omega), List.nil_append, bindA_eq (by simp; omega)]
    unfold bindS
    rw [if_pos ⟨by omega, by omega, by simp; omega⟩]
    dsimp only
    rw [if_pos ⟨by omega, by omega, by simp; omega⟩]
    rw [ht, ht2, r1, r2, Option.bind_some, Option.bind_some]
    have h2 : (bs ++ [-77])[(bs.length : Int).toNat]? = some (-77) := by simp
    rw [bindI_eq (by omega) h2]
    have h3 := t11_l1 k bs (-77) (by omega) k 0 (by omega) (by omega)
    have h3' : F11_l1 k bs (bs ++ [-77]) k ((-77 : Int) == -77) 0 = some true := h3
    rw [h3', t32 k L hn (by omega)]
    simp only [Option.bind_some, cond_true, beq_self_eq_true, Bool.and_self]

end
end Go.Eng.Lift
