/-
  Layer 14: LineAdds, the plain law: what is computed answers true. (With what LineTells, LineWider and LineWays proved of the same functions.)
-/
import Derived.Test.YtjobmgleekphjaaX12b
set_option linter.unusedVariables false
set_option linter.unusedSimpArgs false
namespace Go.Eng.Lift
open Go.Proofs
noncomputable section
theorem w_id {n : Int} (h1 : -9223372036854775808 ≤ n) (h2 : n < 9223372036854775808) : w n = n := by
  unfold w
  first | (rw [wrap64]; omega) | (simp [IntKind.wrap, IntKind.signed, IntKind.bits]; omega)
theorem w_ge (n : Int) : -9223372036854775808 ≤ w n := by
  unfold w
  first | (rw [wrap64]; omega) | (simp [IntKind.wrap, IntKind.signed, IntKind.bits]; omega)
theorem w_lt (n : Int) : w n < 9223372036854775808 := by
  unfold w
  first | (rw [wrap64]; omega) | (simp [IntKind.wrap, IntKind.signed, IntKind.bits]; omega)

theorem bindI_eq {α β : Type} {L : List α} {i : Int} {f : α → Option β} {y : α} (h : 0 ≤ i) (hy : L[i.toNat]? = some y) : bindI L i f = f y := by
  unfold bindI
  rw [if_pos h, hy]; rfl
theorem at_of {α : Type} {L : List α} {i : Int} (h : 0 ≤ i) (h2 : i < L.length) : ∃ y, L[i.toNat]? = some y := ⟨_, List.getElem?_eq_getElem (by omega)⟩

theorem t92 (k : Nat) (a b c : Int) : F92 k a b c = some (decide (b ≤ a) && decide (a ≤ c)) := by
  unfold F92
  cases decide (b ≤ a) <;> rfl

theorem t104 (k : Nat) (x : GItem) : ∃ r, F104 k x = some r ∧ (r = true → 0 ≤ x.width ∧ x.width ≤ 1099511627776) := by
  unfold F104
  simp only [t92, Option.bind_some]
  cases h1 : (decide (1 ≤ x.size) && decide (x.size ≤ 67108864)) with
  | false => exact ⟨false, rfl, fun h => by cases h⟩
  | true =>
    cases h2 : (decide (0 ≤ x.width) && decide (x.width ≤ 1099511627776)) with
    | false => exact ⟨false, rfl, fun h => by cases h⟩
    | true =>
      have h3 : 0 ≤ x.width ∧ x.width ≤ 1099511627776 := by simpa using h2
      cases h4 : (decide (0 ≤ x.height) && decide (x.height ≤ 1099511627776)) with
      | false => exact ⟨false, rfl, fun h => by cases h⟩
      | true => exact ⟨_, rfl, fun _ => h3⟩

theorem t110 (k : Nat) (a : Int) : ∃ r, F110 k a = some r := by
  unfold F110
  cases decide (a < 0) with
  | true => exact ⟨_, rfl⟩
  | false =>
  cases decide (a ≤ 127) with
  | true => exact ⟨_, rfl⟩
  | false =>
  cases decide (a ≤ 2047) with
  | true => exact ⟨_, rfl⟩
  | false =>
  cases decide (55296 ≤ a) <;> cases decide (a ≤ 57343) <;> cases decide (a ≤ 65535) <;> cases decide (a ≤ 1114111) <;> exact ⟨_, rfl⟩
theorem t105 (k : Nat) (a : Int) : ∃ r, F105 k a = some r := by
  unfold F105
  obtain ⟨r, hr⟩ := t110 k (w_i32 a)
  rw [hr]
  cases decide (a < 0) <;> simp only [cond_true, cond_false, Option.bind_some]
  · cases decide (a > 1114111) <;> simp only [cond_true, cond_false, Option.bind_some]
    · cases decide (a ≥ 55296) <;> simp only [cond_true, cond_false, Option.bind_some]
      · exact ⟨_, rfl⟩
      · cases decide (a ≤ 57343) <;> exact ⟨_, rfl⟩
    · exact ⟨_, rfl⟩
  · exact ⟨_, rfl⟩


/-- what the check tells of an item -/
structure Good (a b c : GItem) : Prop where
  box : a.kind = 1 → 0 ≤ a.width ∧ a.width ≤ 1099511627776
  kern : a.kind = 2 → b.kind = 1 ∧ c.kind = 1 ∧ w (0 - (if c.width < b.width then c.width else b.width)) ≤ a.width ∧ a.width ≤ 1099511627776
  glue : a.kind = 3 → (0 ≤ a.width ∧ a.width ≤ 67108864) ∧ (0 ≤ a.stretch ∧ a.stretch ≤ 67108864) ∧ 0 ≤ a.shrink ∧ a.shrink ≤ a.width
  pen : a.kind = 4 → 0 ≤ a.width ∧ a.width ≤ 1099511627776
  val : a.kind = 4 → -10000 ≤ a.value

theorem fin91 {b : Bool} {x : Bool} : ∃ r, (Option.bind (α := Bool) (bif b then some x else some false) fun v => some v) = some r ∧ (r = true → b = true) := by
  cases b
  · exact ⟨false, rfl, fun h => by cases h⟩
  · exact ⟨x, rfl, fun _ => rfl⟩

theorem t91 (k : Nat) (a b c : GItem) : ∃ r, F91 k a b c = some r ∧ (r = true → Good a b c) := by
  obtain ⟨q, hq, hq'⟩ := t104 k a
  obtain ⟨u, hu⟩ := t105 k a.rune
  unfold F91
  simp only [t92, hq, hu, Option.bind_some]
  cases h1 : (a.kind == 1) with
  | true =>
    have e : a.kind = 1 := eq_of_beq h1
    cases q with
    | false => exact ⟨false, rfl, fun h => by cases h⟩
    | true =>
      have := hq' rfl
      have g : Good a b c := ⟨fun _ => this, fun h => by omega, fun h => by omega, fun h => by omega, fun h => by omega⟩
      cases decide (u > 0) with
      | false => exact ⟨false, rfl, fun h => by cases h⟩
      | true => exact ⟨_, rfl, fun _ => g⟩
  | false =>
  cases h2 : (a.kind == 2) with
  | true =>
    have e : a.kind = 2 := eq_of_beq h2
    cases h3 : (b.kind == 1) with
    | false => exact ⟨false, rfl, fun h => by cases h⟩
    | true =>
    cases h4 : (c.kind == 1) with
    | false => exact ⟨false, rfl, fun h => by cases h⟩
    | true =>
    cases h5 : (a.width != 0) with
    | false => exact ⟨false, rfl, fun h => by cases h⟩
    | true =>
    cases h6 : (decide (w (0 - (if c.width < b.width then c.width else b.width)) ≤ a.width) && decide (a.width ≤ 1099511627776)) with
    | false => exact ⟨false, rfl, fun h => by cases h⟩
    | true =>
      have h7 : w (0 - (if c.width < b.width then c.width else b.width)) ≤ a.width ∧ a.width ≤ 1099511627776 := by simpa using h6
      have g : Good a b c := ⟨fun h => by omega, fun _ => ⟨eq_of_beq h3, eq_of_beq h4, h7⟩, fun h => by omega, fun h => by omega, fun h => by omega⟩
      exact ⟨_, rfl, fun _ => g⟩
  | false =>
  cases h3 : (a.kind == 3) with
  | true =>
    have e : a.kind = 3 := eq_of_beq h3
    cases h4 : (decide (1 ≤ a.size) && decide (a.size ≤ 67108864)) with
    | false => exact ⟨false, rfl, fun h => by cases h⟩
    | true =>
    cases h5 : (decide (0 ≤ a.width) && decide (a.width ≤ 67108864)) with
    | false => exact ⟨false, rfl, fun h => by cases h⟩
    | true =>
    cases h6 : (decide (0 ≤ a.stretch) && decide (a.stretch ≤ 67108864)) with
    | false => exact ⟨false, rfl, fun h => by cases h⟩
    | true =>
    cases h7 : (decide (0 ≤ a.shrink) && decide (a.shrink ≤ a.width)) with
    | false => exact ⟨false, rfl, fun h => by cases h⟩
    | true =>
      have h5' : 0 ≤ a.width ∧ a.width ≤ 67108864 := by simpa using h5
      have h6' : 0 ≤ a.stretch ∧ a.stretch ≤ 67108864 := by simpa using h6
      have h7' : 0 ≤ a.shrink ∧ a.shrink ≤ a.width := by simpa using h7
      have g : Good a b c := ⟨fun h => by omega, fun h => by omega, fun _ => ⟨h5', h6', h7'⟩, fun h => by omega, fun h => by omega⟩
      exact ⟨_, rfl, fun _ => g⟩
  | false =>
  cases h4 : (a.kind == 4) with
  | true =>
    have e : a.kind = 4 := eq_of_beq h4
    cases hv : (decide (-10000 ≤ a.value) && decide (a.value ≤ 10000)) with
    | false => cases hf : a.flag <;> exact ⟨false, rfl, fun h => by cases h⟩
    | true =>
    have hval : -10000 ≤ a.value := by have : -10000 ≤ a.value ∧ a.value ≤ 10000 := by simpa using hv
                                       exact this.1
    cases hf : a.flag with
    | false =>
      refine ⟨_, rfl, fun h => ?_⟩
      simp only [Bool.and_eq_true, beq_iff_eq] at h
      have hw : a.width = 0 := h.2.2.2.2.1
      exact ⟨fun h => by omega, fun h => by omega, fun h => by omega, fun _ => by omega, fun _ => hval⟩
    | true =>
    cases q with
    | false => exact ⟨false, rfl, fun h => by cases h⟩
    | true =>
      have := hq' rfl
      have g : Good a b c := ⟨fun h => by omega, fun h => by omega, fun h => by omega, fun _ => this, fun _ => hval⟩
      cases hr : (a.rune == 45) with
      | false => exact ⟨false, rfl, fun h => by cases h⟩
      | true =>
        cases decide (a.value > -10000) with
        | false => exact ⟨false, rfl, fun h => by cases h⟩
        | true => exact ⟨_, rfl, fun _ => g⟩
  | false => exact ⟨false, rfl, fun h => by cases h⟩

def prevOf (L : List GItem) (i : Nat) : GItem := if 0 < i then (L[i - 1]?).getD (GItem.mk 0 ByteArray.empty 0 0 0 0 0 0 0 0 false 0 0) else GItem.mk 0 ByteArray.empty 0 0 0 0 0 0 0 0 false 0 0
def nextOf (L : List GItem) (i : Nat) : GItem := (L[i + 1]?).getD (GItem.mk 0 ByteArray.empty 0 0 0 0 0 0 0 0 false 0 0)

theorem t64_l1 (k : Nat) (L : List GItem) (hl : L.length ≤ 4096) : ∀ (j : Nat) (v : Int) (i : Nat), i ≤ L.length → L.length < j + i →
    ∃ r, F64_l1 k L j v i = some r ∧ (r = .inl () → ∀ t y, i ≤ t → L[t]? = some y → Good y (prevOf L t) (nextOf L t))
  | 0, v, i, h1, h2 => by omega
  | j + 1, v, i, h1, h2 => by
    unfold F64_l1
    cases hc : decide ((i : Int) < (L.length : Int)) with
    | false =>
      have : ¬ (i : Int) < L.length := of_decide_eq_false hc
      refine ⟨.inl (), rfl, fun _ t y ht hy => ?_⟩
      have := lt_of_get hy
      omega
    | true =>
      have hi : (i : Int) < L.length := of_decide_eq_true hc
      obtain ⟨y, hy⟩ := at_of (L := L) (i := (i : Int)) (by omega) hi
      have hp : ∀ {β : Type} (f : Int × ByteArray × Int × Int × Int × Int × Int × Int × Int × Int × Bool × Int × Int → Option β), (Option.bind (bif decide ((i : Int) > 0) then (bindI L (w ((i : Int) - 1)) fun y22 => some (y22.kind, y22.font, y22.size, y22.rune, y22.width, y22.height, y22.depth, y22.stretch, y22.shrink, y22.value, y22.flag, y22.from_, y22.to_)) else (some (0, ByteArray.empty, 0, 0, 0, 0, 0, 0, 0, 0, false, 0, 0))) f) = 
          f ((prevOf L i).kind, (prevOf L i).font, (prevOf L i).size, (prevOf L i).rune, (prevOf L i).width, (prevOf L i).height, (prevOf L i).depth, (prevOf L i).stretch, (prevOf L i).shrink, (prevOf L i).value, (prevOf L i).flag, (prevOf L i).from_, (prevOf L i).to_) := by
        intro β f
        by_cases h0 : 0 < i
        · rw [decide_eq_true (show (i : Int) > 0 by omega), w_id (by omega) (by omega)]
          obtain ⟨z, hz⟩ := at_of (L := L) (i := (i : Int) - 1) (by omega) (by omega)
          rw [cond_true, bindI_eq (by omega) hz]
          have : (i : Int).toNat - 1 = i - 1 := by omega
          unfold prevOf
          rw [if_pos h0]
          rw [show ((i : Int) - 1).toNat = i - 1 by omega] at hz
          rw [hz]; rfl
        · rw [decide_eq_false (show ¬ (i : Int) > 0 by omega), cond_false]
          unfold prevOf
          rw [if_neg h0]; rfl
      have hn : ∀ {β : Type} (f : Int × ByteArray × Int × Int × Int × Int × Int × Int × Int × Int × Bool × Int × Int → Option β), (Option.bind (bif decide ((w ((i : Int) + 1)) < (L.length : Int)) then (bindI L (w ((i : Int) + 1)) fun y22 => some (y22.kind, y22.font, y22.size, y22.rune, y22.width, y22.height, y22.depth, y22.stretch, y22.shrink, y22.value, y22.flag, y22.from_, y22.to_)) else (some (0, ByteArray.empty, 0, 0, 0, 0, 0, 0, 0, 0, false, 0, 0))) f) = 
          f ((nextOf L i).kind, (nextOf L i).font, (nextOf L i).size, (nextOf L i).rune, (nextOf L i).width, (nextOf L i).height, (nextOf L i).depth, (nextOf L i).stretch, (nextOf L i).shrink, (nextOf L i).value, (nextOf L i).flag, (nextOf L i).from_, (nextOf L i).to_) := by
        intro β f
        rw [w_id (n := (i : Int) + 1) (by omega) (by omega)]
        by_cases h0 : i + 1 < L.length
        · rw [decide_eq_true (show (i : Int) + 1 < L.length by omega)]
          obtain ⟨z, hz⟩ := at_of (L := L) (i := (i : Int) + 1) (by omega) (by omega)
          rw [cond_true, bindI_eq (by omega) hz]
          unfold nextOf
          rw [show ((i : Int) + 1).toNat = i + 1 by omega] at hz
          rw [hz]; rfl
        · rw [decide_eq_false (show ¬ (i : Int) + 1 < L.length by omega), cond_false]
          unfold nextOf
          rw [List.getElem?_eq_none (by omega)]; rfl
      rw [cond_true, bindI_eq (by omega) hy]
      rw [show (i : Int).toNat = i by omega] at hy
      simp only [hp, hn]
      obtain ⟨r, hr, hg⟩ := t91 k y (prevOf L i) (nextOf L i)
      rw [hr]
      simp only [Option.bind_some]
      cases r with
      | false => exact ⟨.inr 1, rfl, fun h => by cases h⟩
      | true =>
        have g := hg rfl
        have step : ∀ v', ∃ r, F64_l1 k L j v' (w ((i : Int) + 1)) = some r ∧ (r = .inl () → ∀ t y, i ≤ t → L[t]? = some y → Good y (prevOf L t) (nextOf L t)) := by
          intro v'
          rw [w_id (n := (i : Int) + 1) (by omega) (by omega)]
          obtain ⟨r, h3, h4⟩ := t64_l1 k L hl j v' (i + 1) (by omega) (by omega)
          refine ⟨r, h3, fun e t z ht hz => ?_⟩
          by_cases hti : t = i
          · subst hti
            rw [hy] at hz; cases hz; exact g
          · exact h4 e t z (by omega) hz
        cases (y.kind == 2) with
        | true => exact step v
        | false =>
          simp only [t92]
          cases decide (y.from_ < v) with
          | true => exact ⟨.inr 1, rfl, fun h => by cases h⟩
          | false =>
            cases (decide (y.from_ ≤ y.to_) && decide (y.to_ ≤ 65536)) with
            | false => exact ⟨.inr 1, rfl, fun h => by cases h⟩
            | true => exact step y.to_

theorem t64_no (k : Nat) (L : List GItem) : ∀ (j : Nat) (v i : Int), F64_l1 k L j v i ≠ some (.inr 0)
  | 0, v, i => by unfold F64_l1; intro h; cases h
  | j + 1, v, i => by
    have ih := t64_no k L j
    unfold F64_l1
    intro h
    cases hc : decide (i < (L.length : Int)) with
    | false => rw [hc] at h; cases h
    | true =>
      rw [hc, cond_true] at h
      obtain ⟨x, hx, h⟩ := bind_some h
      cases x with
      | inl v' => exact ih _ _ h
      | inr q =>
        have hq : q = .inr 0 := by simpa using h
        subst hq
        obtain ⟨y, _, _, hx⟩ := bindI_some hx
        obtain ⟨p, _, hx⟩ := bind_some hx
        obtain ⟨n, _, hx⟩ := bind_some hx
        obtain ⟨p1, p2, p3, p4, p5, p6, p7, p8, p9, p10, p11, p12, p13⟩ := p
        obtain ⟨n1, n2, n3, n4, n5, n6, n7, n8, n9, n10, n11, n12, n13⟩ := n
        obtain ⟨r, _, hx⟩ := bind_some hx
        cases r with
        | false => cases hx
        | true =>
          simp only [Bool.not_true, cond_false] at hx
          cases hk : (y.kind == 2) with
          | true => rw [hk] at hx; cases hx
          | false =>
            rw [hk, cond_false] at hx
            obtain ⟨b, _, hx⟩ := bind_some hx
            cases b <;> cases hx

theorem t64 (k : Nat) (L : List GItem) (hk : L.length < k) : ∃ r, F64 k L = some r ∧ (r = 0 → L.length ≤ 4096 ∧ ∀ t y, L[t]? = some y → Good y (prevOf L t) (nextOf L t)) := by
  unfold F64
  cases hc : decide ((L.length : Int) > 4096) with
  | true => exact ⟨130, rfl, fun h => by omega⟩
  | false =>
    have hl : ¬ (L.length : Int) > 4096 := of_decide_eq_false hc
    obtain ⟨r, h1, h2⟩ := t64_l1 k L (by omega) k 0 0 (by omega) (by omega)
    rw [cond_false]
    have h1' : F64_l1 k L k 0 0 = some r := h1
    rw [h1', Option.bind_some]
    cases r with
    | inr n =>
      refine ⟨n, rfl, fun e => ?_⟩
      subst e
      exact (t64_no k L k 0 0 h1').elim
    | inl u =>
      have g := h2 rfl
      have good : L.length ≤ 4096 ∧ ∀ t y, L[t]? = some y → Good y (prevOf L t) (nextOf L t) := ⟨by omega, fun t y hy => g t y (by omega) hy⟩
      simp only [Sum.elim_inl]
      by_cases h0 : 0 < L.length
      · obtain ⟨y, hy⟩ := at_of (L := L) (i := (L.length : Int) - 1) (by omega) (by omega)
        rw [decide_eq_true (show (L.length : Int) > 0 by omega), cond_true, w_id (n := (L.length : Int) - 1) (by omega) (by omega), bindI_eq (by omega) hy, bindI_eq (by omega) hy]
        cases (y.kind != 4) with
        | true => exact ⟨1, rfl, fun h => by cases h⟩
        | false =>
          cases (y.value != (-10000)) with
          | true => exact ⟨1, rfl, fun h => by cases h⟩
          | false => exact ⟨0, rfl, fun _ => good⟩
      · rw [decide_eq_false (show ¬ (L.length : Int) > 0 by omega)]
        exact ⟨0, rfl, fun _ => good⟩

theorem t68 (k : Nat) (L : List GItem) (i : Int) (h0 : 0 ≤ i) (h1 : i < L.length) (hl : L.length ≤ 4096) : ∃ r, F68 k L i = some r := by
  obtain ⟨y, hy⟩ := at_of h0 h1
  unfold F68
  rw [bindI_eq h0 hy]
  cases (y.kind == 3) with
  | true =>
    by_cases h2 : 0 < i
    · obtain ⟨z, hz⟩ := at_of (L := L) (i := i - 1) (by omega) (by omega)
      rw [decide_eq_true (show i > 0 by omega), w_id (n := i - 1) (by omega) (by omega), bindI_eq (by omega) hz]
      exact ⟨_, rfl⟩
    · rw [decide_eq_false (show ¬ i > 0 by omega)]
      exact ⟨_, rfl⟩
  | false =>
    cases (y.kind == 4) with
    | true => rw [bindI_eq h0 hy]; exact ⟨_, rfl⟩
    | false => exact ⟨_, rfl⟩

theorem t70 (k : Nat) (y : GItem) : ∃ r, F70 k y = some r := by
  unfold F70
  cases (y.kind == 4) <;> exact ⟨_, rfl⟩

theorem t94_l1 (k : Nat) (L : List GItem) (hl : L.length ≤ 4096) : ∀ (j i : Nat), i ≤ L.length → L.length < j + i → ∃ r, F94_70_l1 k L j i = some r
  | 0, i, h1, h2 => by omega
  | j + 1, i, h1, h2 => by
    unfold F94_70_l1
    cases hc : decide ((i : Int) < (L.length : Int)) with
    | false => exact ⟨_, rfl⟩
    | true =>
      have hi : (i : Int) < L.length := of_decide_eq_true hc
      obtain ⟨y, hy⟩ := at_of (L := L) (i := (i : Int)) (by omega) hi
      obtain ⟨r, hr⟩ := t70 k y
      rw [cond_true, bindI_eq (by omega) hy, hr, Option.bind_some]
      cases r with
      | true => exact ⟨_, rfl⟩
      | false =>
        rw [w_id (n := (i : Int) + 1) (by omega) (by omega)]
        exact t94_l1 k L hl j (i + 1) (by omega) (by omega)

theorem t69 (k : Nat) (L : List GItem) (hl : L.length ≤ 4096) (hk : L.length < k) : ∃ r, F69_70 k L = some r := by
  unfold F69_70 F94_70
  obtain ⟨r, hr⟩ := t94_l1 k L hl k 0 (by omega) (by omega)
  have hr' : F94_70_l1 k L k 0 = some r := hr
  rw [hr', Option.bind_some]
  cases r <;> exact ⟨_, rfl⟩

theorem t71_l1 (k : Nat) (L : List GItem) (a3 : Int) (hl : L.length ≤ 4096) (h3 : a3 < L.length) : ∀ (j : Nat) (v : Int), 0 ≤ v → v ≤ a3 → a3 - v < j → ∃ r, F71_l1 k L a3 j v = some r ∧ v ≤ r ∧ r ≤ a3
  | 0, v, h0, h1, h2 => by omega
  | j + 1, v, h0, h1, h2 => by
    unfold F71_l1
    by_cases hv : v < a3
    · obtain ⟨y, hy⟩ := at_of (L := L) (i := v) (by omega) (by omega)
      rw [decide_eq_true hv, cond_true, bindI_eq (by omega) hy, Option.bind_some]
      cases (y.kind != 1) with
      | false => exact ⟨v, rfl, by omega, by omega⟩
      | true =>
        rw [w_id (n := v + 1) (by omega) (by omega)]
        obtain ⟨r, k1, k2, k3⟩ := t71_l1 k L a3 hl h3 j (v + 1) (by omega) (by omega) (by omega)
        exact ⟨r, k1, by omega, k3⟩
    · rw [decide_eq_false hv]
      exact ⟨v, rfl, by omega, by omega⟩

theorem t71_l2 (k : Nat) (L : List GItem) (v1 : Int) (hl : L.length ≤ 4096) (h0 : 0 ≤ v1) : ∀ (j : Nat) (v : Int), v1 ≤ v → v ≤ L.length → v - v1 < j → ∃ r, F71_l2 k L v1 j v = some r ∧ v1 ≤ r ∧ r ≤ v
  | 0, v, h1, h3, h2 => by omega
  | j + 1, v, h1, h3, h2 => by
    unfold F71_l2
    by_cases hv : v > v1
    · obtain ⟨y, hy⟩ := at_of (L := L) (i := v - 1) (by omega) (by omega)
      rw [decide_eq_true hv, cond_true, w_id (n := v - 1) (by omega) (by omega), bindI_eq (by omega) hy, Option.bind_some]
      cases (y.kind != 1) with
      | false => exact ⟨v, rfl, by omega, by omega⟩
      | true =>
        obtain ⟨r, k1, k2, k3⟩ := t71_l2 k L v1 hl h0 j (v - 1) (by omega) (by omega) (by omega)
        exact ⟨r, k1, by omega, by omega⟩
    · rw [decide_eq_false hv]
      exact ⟨v, rfl, by omega, by omega⟩


/-! ### What a line's sums come to -/
structure Fine (y : GItem) : Prop where
  width : y.kind = 1 ∨ y.kind = 2 ∨ y.kind = 3 → -1099511627776 ≤ y.width ∧ y.width ≤ 1099511627776
  glue : y.kind = 3 → (0 ≤ y.stretch ∧ y.stretch ≤ 67108864) ∧ 0 ≤ y.shrink ∧ y.shrink ≤ 67108864
  pen : y.kind = 4 → 0 ≤ y.width ∧ y.width ≤ 1099511627776
  val : y.kind = 4 → -10000 ≤ y.value

theorem fine_of {L : List GItem} (h : ∀ t y, L[t]? = some y → Good y (prevOf L t) (nextOf L t)) {t : Nat} {y : GItem} (hy : L[t]? = some y) : Fine y := by
  have g := h t y hy
  refine ⟨fun hk => ?_, fun hk => ?_, g.pen, g.val⟩
  · rcases hk with hk | hk | hk
    · have := g.box hk; omega
    · obtain ⟨k1, k2, k3, k4⟩ := g.kern hk
      have hp : 0 ≤ (prevOf L t).width ∧ (prevOf L t).width ≤ 1099511627776 := by
        unfold prevOf at k1 ⊢
        by_cases h0 : 0 < t
        · rw [if_pos h0] at k1 ⊢
          cases hz : L[t - 1]? with
          | none => rw [hz] at k1; cases k1
          | some z =>
            rw [hz] at k1
            exact (h _ z hz).box k1
        · rw [if_neg h0] at k1; cases k1
      have hn : 0 ≤ (nextOf L t).width ∧ (nextOf L t).width ≤ 1099511627776 := by
        unfold nextOf at k2 ⊢
        cases hz : L[t + 1]? with
        | none => rw [hz] at k2; cases k2
        | some z =>
          rw [hz] at k2
          exact (h _ z hz).box k2
      split at k3
      · rw [w_id (by omega) (by omega)] at k3; omega
      · rw [w_id (by omega) (by omega)] at k3; omega
    · have := g.glue hk; omega
  · have := g.glue hk; omega

theorem t71_l3 (k : Nat) (M : List GItem) (hl : M.length ≤ 4096) (hf : ∀ (t : Nat) (y : GItem), M[t]? = some y → Fine y) : ∀ (j i : Nat) (a b c d e : Int), i ≤ M.length → M.length < j + i → -1099511627776 * i ≤ a → a ≤ 1099511627776 * i → 0 ≤ b → b ≤ 67108864 * i → 0 ≤ c → c ≤ 67108864 * i →
    ∃ a' b' c' d' e', F71_l3 k M j i a b c d e = some (a', b', c', d', e') ∧ -4503599627370496 ≤ a' ∧ a' ≤ 4503599627370496 ∧ 0 ≤ b' ∧ b' ≤ 274877906944 ∧ 0 ≤ c' ∧ c' ≤ 274877906944
  | 0, i, a, b, c, d, e, h1, h2, h3, h4, h5, h6, h7, h8 => by omega
  | j + 1, i, a, b, c, d, e, h1, h2, h3, h4, h5, h6, h7, h8 => by
    unfold F71_l3
    by_cases hi : (i : Int) < M.length
    · obtain ⟨y, hy⟩ := at_of (L := M) (i := (i : Int)) (by omega) hi
      have fy := hf _ y hy
      rw [decide_eq_true hi, cond_true, bindI_eq (by omega) hy]
      rw [w_id (n := (i : Int) + 1) (by omega) (by omega)]
      cases q1 : (y.kind == 1) with
      | true =>
        have wy := fy.width (.inl (eq_of_beq q1))
        rw [w_id (n := a + y.width) (by omega) (by omega)]
        exact t71_l3 k M hl hf j (i + 1) _ _ _ _ _ (by omega) (by omega) (by omega) (by omega) (by omega) (by omega) (by omega) (by omega)
      | false =>
      cases q2 : (y.kind == 2) with
      | true =>
        have wy := fy.width (.inr (.inl (eq_of_beq q2)))
        rw [w_id (n := a + y.width) (by omega) (by omega)]
        exact t71_l3 k M hl hf j (i + 1) _ _ _ _ _ (by omega) (by omega) (by omega) (by omega) (by omega) (by omega) (by omega) (by omega)
      | false =>
      cases q3 : (y.kind == 3) with
      | true =>
        have wy := fy.width (.inr (.inr (eq_of_beq q3)))
        have gy := fy.glue (eq_of_beq q3)
        rw [w_id (n := a + y.width) (by omega) (by omega), w_id (n := b + y.stretch) (by omega) (by omega), w_id (n := c + y.shrink) (by omega) (by omega)]
        exact t71_l3 k M hl hf j (i + 1) _ _ _ _ _ (by omega) (by omega) (by omega) (by omega) (by omega) (by omega) (by omega) (by omega)
      | false => exact t71_l3 k M hl hf j (i + 1) _ _ _ _ _ (by omega) (by omega) (by omega) (by omega) (by omega) (by omega) (by omega) (by omega)
    · rw [decide_eq_false hi]
      exact ⟨a, b, c, d, e, rfl, by omega, by omega, by omega, by omega, by omega, by omega⟩

/-! ### How bad a line is -/
theorem t106 (k : Nat) (x : Int) (h : 100 ≤ x) (h' : x ≤ 1000) : ∃ r, F106 k x = some r ∧ 100 ≤ r := by
  unfold F106
  refine ⟨_, rfl, ?_⟩
  have a1 : 100 * 100 ≤ x * x := Int.mul_le_mul h h (by omega) (by omega)
  have a2 : x * x ≤ 1000 * 1000 := Int.mul_le_mul h' h' (by omega) (by omega)
  have a3 : 10000 * 100 ≤ x * x * x := Int.mul_le_mul (by omega) h (by omega) (by omega)
  have a4 : x * x * x ≤ 1000000 * 1000 := Int.mul_le_mul (by omega) h' (by omega) (by omega)
  rw [w_id (n := x * x) (by omega) (by omega), w_id (n := x * x * x) (by omega) (by omega), Int.tdiv_eq_ediv_of_nonneg (by omega)]
  rw [w_id (n := x * x * x / 10000) (by omega) (by omega)]
  split <;> omega

/-- what a line's numbers keep -/
def Keeps (x : GLine) : Prop := x.over_ = false → x.bad < 100 → w (0 - x.short) ≤ x.shrink ∧ (x.end_ = true ∨ x.short ≤ x.stretch)

theorem t95 (k : Nat) (x : GLine) (hs : 0 ≤ x.stretch) (hs' : x.stretch ≤ 274877906944) (hk : 0 ≤ x.shrink) (hk' : x.shrink ≤ 274877906944) (ht : -9007199254740992 ≤ x.short) (ht' : x.short ≤ 9007199254740992) :
    ∃ r, F95 k x = some r ∧ Keeps r := by
  unfold F95
  have e106 : ∀ y, ∃ r, F106 k y = some r := fun y => ⟨_, rfl⟩
  rw [w_id (n := 0 - x.shrink) (by omega) (by omega), w_id (n := 0 - x.short) (by omega) (by omega)]
  by_cases h1 : x.short < 0
  · rw [decide_eq_true h1]
    by_cases h2 : x.short < 0 - x.shrink
    · rw [decide_eq_true h2]
      exact ⟨_, rfl, fun h => by cases h⟩
    · rw [decide_eq_false h2]
      have h3 : (x.short == 0) = false := by rw [beq_eq_false_iff_ne]; omega
      have h4 : decide (x.short > 0) = false := decide_eq_false (by omega)
      rw [h3, h4]
      obtain ⟨q, hq⟩ := e106 (w (Int.tdiv (w (100 * (0 - x.short))) x.shrink))
      have keep : ∀ b c, Keeps (GLine.mk x.first x.last x.break_ x.natural x.stretch x.shrink x.short b c x.over_ x.hyphen x.end_ x.height x.depth) := fun b c _ _ =>
        ⟨by show w (0 - x.short) ≤ x.shrink; rw [w_id (by omega) (by omega)]; omega, .inr (by show x.short ≤ x.stretch; omega)⟩
      simp only [cond_true, cond_false, Option.bind_some, bindD, if_neg (show ¬ x.shrink = 0 by omega), hq]
      cases decide (w (Int.tdiv (w (100 * (0 - x.short))) x.shrink) > 50)
      · exact ⟨_, rfl, keep _ _⟩
      · exact ⟨_, rfl, keep _ _⟩
  · rw [decide_eq_false h1]
    have k1 : w (0 - x.short) ≤ x.shrink := by rw [w_id (by omega) (by omega)]; omega
    by_cases h3 : x.short = 0
    · have h3' : (x.short == 0) = true := by rw [h3]; rfl
      rw [h3']
      exact ⟨_, rfl, fun _ _ => ⟨k1, .inr (by show x.short ≤ x.stretch; omega)⟩⟩
    · have h3' : (x.short == 0) = false := by rw [beq_eq_false_iff_ne]; exact h3
      rw [h3', decide_eq_true (show x.short > 0 by omega)]
      cases he : x.end_ with
      | true => exact ⟨_, rfl, fun _ _ => ⟨k1, .inl rfl⟩⟩
      | false =>
      by_cases h4 : x.stretch = 0
      · have h4' : (x.stretch == 0) = true := by rw [h4]; rfl
        rw [h4']
        exact ⟨_, rfl, fun _ h => by have h' : (10000 : Int) < 100 := h; omega⟩
      · have h4' : (x.stretch == 0) = false := by rw [beq_eq_false_iff_ne]; exact h4
        rw [h4']
        have d0 : 0 ≤ 100 * x.short / x.stretch := Int.ediv_nonneg (by omega) (by omega)
        have d1 : 100 * x.short / x.stretch ≤ 100 * x.short := Int.ediv_le_self _ (by omega)
        have ew : w (Int.tdiv (w (100 * x.short)) x.stretch) = 100 * x.short / x.stretch := by
          rw [w_id (n := 100 * x.short) (by omega) (by omega), Int.tdiv_eq_ediv_of_nonneg (by omega), w_id (by omega) (by omega)]
        rw [ew]
        generalize hd : (if 1000 < 100 * x.short / x.stretch then (1000 : Int) else 100 * x.short / x.stretch) = d
        obtain ⟨q, hq⟩ := e106 d
        have keep : ∀ c, Keeps (GLine.mk x.first x.last x.break_ x.natural x.stretch x.shrink x.short q c x.over_ x.hyphen false x.height x.depth) := fun c _ hb => by
          refine ⟨k1, .inr ?_⟩
          show x.short ≤ x.stretch
          by_cases h5 : x.short ≤ x.stretch
          · exact h5
          · exfalso
            have h6 : 100 ≤ 100 * x.short / x.stretch := (Int.le_ediv_iff_mul_le (by omega)).2 (by omega)
            obtain ⟨r, hr, hr'⟩ := t106 k d (by rw [← hd]; split <;> omega) (by rw [← hd]; split <;> omega)
            rw [hq] at hr; cases hr
            have hb' : q < 100 := hb
            omega
        simp only [cond_true, cond_false, Option.bind_some, bindD, if_neg h4, hq]
        cases decide (d ≤ 50) with
        | true => exact ⟨_, rfl, keep _⟩
        | false =>
          cases decide (d ≤ 100) with
          | true => exact ⟨_, rfl, keep _⟩
          | false => exact ⟨_, rfl, keep _⟩

theorem t71 (k : Nat) (L : List GItem) (a1 a2 a3 : Int) (hl : L.length ≤ 4096) (hk : L.length < k) (hf : ∀ (t : Nat) (y : GItem), L[t]? = some y → Fine y) (h1 : 1 ≤ a1) (h1' : a1 ≤ 536870912) (h2 : -1 ≤ a2) (h3 : a2 < a3) (h4 : a3 < L.length) :
    ∃ r, F71 k L a1 a2 a3 = some r ∧ Keeps r := by
  unfold F71
  rw [w_id (n := a2 + 1) (by omega) (by omega)]
  obtain ⟨v1, e1, k1, k2⟩ := t71_l1 k L a3 hl h4 k (a2 + 1) (by omega) (by omega) (by omega)
  rw [e1, Option.bind_some]
  obtain ⟨v7, e2, k3, k4⟩ := t71_l2 k L v1 hl (by omega) k a3 (by omega) (by omega) (by omega)
  rw [e2, Option.bind_some]
  unfold bindS
  rw [if_pos ⟨by omega, by omega, by omega⟩]
  obtain ⟨a, b, c, d, e, e3, b1, b2, b3, b4, b5, b6⟩ := t71_l3 k ((L.take v7.toNat).drop v1.toNat) (by simp; omega) (fun t y hy => by
    rw [List.getElem?_drop, List.getElem?_take] at hy
    split at hy
    · exact hf _ y hy
    · cases hy) k 0 0 0 0 0 0 (by omega) (by simp; omega) (by omega) (by omega) (by omega) (by omega) (by omega) (by omega)
  have e3' : F71_l3 k ((L.take v7.toNat).drop v1.toNat) k 0 0 0 0 0 0 = some (a, b, c, d, e) := e3
  dsimp only
  rw [e3', Option.bind_some]
  dsimp only
  obtain ⟨y, hy⟩ := at_of (L := L) (i := a3) (by omega) h4
  rw [bindI_eq (by omega) hy]
  have fin : ∀ (n : Int) (f g : Bool) (u v : Int), -4503599627370496 ≤ n → n ≤ 4504699139000000 → ∃ r, (F95 k (GLine.mk v1 v7 a3 n b c (w (a1 - n)) 0 0 false f g u v)).bind (fun r51 => some r51) = some r ∧ Keeps r := by
    intro n f g u v n1 n2
    rw [w_id (n := a1 - n) (by omega) (by omega)]
    obtain ⟨r, hr, hr'⟩ := t95 k (GLine.mk v1 v7 a3 n b c (a1 - n) 0 0 false f g u v) b3 b4 b5 b6 (by show _ ≤ a1 - n; omega) (by show a1 - n ≤ _; omega)
    rw [hr]
    exact ⟨r, rfl, hr'⟩
  cases q : (y.kind == 4) with
  | false => exact fin _ _ _ _ _ (by omega) (by omega)
  | true =>
    obtain ⟨r, hr⟩ := t70 k y
    have := (hf _ y hy).pen (eq_of_beq q)
    have ew := w_id (n := a + y.width) (by omega) (by omega)
    rw [cond_true, hr, Option.bind_some]
    cases hy' : y.flag with
    | false => rw [cond_false, Option.bind_some]; exact fin (w (a + y.width)) _ _ _ _ (by omega) (by omega)
    | true => rw [cond_true, Option.bind_some]; exact fin (w (a + y.width)) _ _ _ _ (by omega) (by omega)

theorem t60 (k : Nat) (a b : Int) (ha : 0 ≤ a) (hb : 0 ≤ b) : ∃ r, F60 k a b = some r ∧ a ≤ r ∨ (∃ r, F60 k a b = some r ∧ 2147483647 < r) := by
  unfold F60
  by_cases h1 : a > 2147483647
  · rw [decide_eq_true h1]
    exact ⟨2147483648, .inr ⟨_, rfl, by decide⟩⟩
  · rw [decide_eq_false h1, w_id (n := 2147483647 - a) (by omega) (by omega)]
    by_cases h2 : b > 2147483647 - a
    · rw [decide_eq_true h2]
      exact ⟨2147483648, .inr ⟨_, rfl, by decide⟩⟩
    · rw [decide_eq_false h2]
      refine ⟨a + b, .inl ⟨?_, by omega⟩⟩
      rw [w_id (n := a + b) (by omega) (by omega)]
      rfl

theorem t27_l1 (k : Nat) (L : List GItem) (hl : (L.length : Int) < 9223372036854775808) : ∀ (j i : Nat) (v : Int), 0 ≤ v → i ≤ L.length → L.length < j + i → ∃ r, F27_l1 k L j v i = some r ∧ (r ≤ 2147483647 → v ≤ r)
  | 0, i, v, h0, h1, h2 => by omega
  | j + 1, i, v, h0, h1, h2 => by
    unfold F27_l1
    by_cases hi : (i : Int) < L.length
    · rw [decide_eq_true hi]
      by_cases hv : v ≤ 2147483647
      · rw [decide_eq_true hv]
        obtain ⟨y, hy⟩ := at_of (L := L) (i := (i : Int)) (by omega) hi
        simp only [cond_true, Option.bind_some]
        rw [bindI_eq (by omega) hy, w_id (n := (i : Int) + 1) (by omega) (by omega)]
        obtain ⟨_, h | h⟩ := t60 k v (y.font.size : Int) h0 (by omega)
        · obtain ⟨h3, h4⟩ := h
          rw [h3, Option.bind_some]
          obtain ⟨r, h5, h6⟩ := t27_l1 k L hl j (i + 1) _ (Int.le_trans h0 h4) (by omega) (by omega)
          exact ⟨r, h5, fun h => Int.le_trans h4 (h6 h)⟩
        · obtain ⟨u, h3, h4⟩ := h
          rw [h3, Option.bind_some]
          obtain ⟨r, h5, h6⟩ := t27_l1 k L hl j (i + 1) u (by omega) (by omega) (by omega)
          exact ⟨r, h5, fun h => by have := h6 h; omega⟩
      · rw [decide_eq_false hv]
        exact ⟨v, rfl, fun _ => Int.le_refl _⟩
    · rw [decide_eq_false hi]
      exact ⟨v, rfl, fun _ => Int.le_refl _⟩

theorem t27 (k : Nat) (L : List GItem) (hl : (L.length : Int) < 9223372036854775808) (hk : L.length < k) : ∃ r, F27 k L = some r ∧ (r = false → L.length ≤ 2147483647) := by
  unfold F27
  obtain ⟨r, h1, h2⟩ := t27_l1 k L hl k 0 L.length (by omega) (by omega) (by omega)
  have h1' : F27_l1 k L k (L.length : Int) 0 = some r := h1
  rw [h1', Option.bind_some]
  refine ⟨_, rfl, fun h => ?_⟩
  have h3 : ¬ r > 2147483647 := of_decide_eq_false h
  have := h2 (by omega)
  omega


theorem x70 (k : Nat) (y : GItem) : F70 k y = some (y.kind == 4 && decide (y.value ≤ -10000)) := by
  unfold F70
  cases (y.kind == 4) <;> rfl
theorem bif_id (b : Bool) : (bif b then some true else some false) = some b := by cases b <;> rfl

theorem x104 (k : Nat) (x : GItem) : F104 k x = some ((decide (1 ≤ x.size) && decide (x.size ≤ 67108864)) && ((decide (0 ≤ x.width) && decide (x.width ≤ 1099511627776)) && ((decide (0 ≤ x.height) && decide (x.height ≤ 1099511627776)) && (decide (0 ≤ x.depth) && decide (x.depth ≤ 1099511627776))))) := by
  unfold F104
  simp only [t92, Option.bind_some]
  cases (decide (1 ≤ x.size) && decide (x.size ≤ 67108864)) <;> cases (decide (0 ≤ x.width) && decide (x.width ≤ 1099511627776)) <;> cases (decide (0 ≤ x.height) && decide (x.height ≤ 1099511627776)) <;> cases (decide (0 ≤ x.depth) && decide (x.depth ≤ 1099511627776)) <;> rfl

theorem x99 (k : Nat) (a : Int) : F99 k a = some (decide (1 ≤ a) && decide (a ≤ 67108864)) := by
  unfold F99
  have e : decide (a ≥ 1) = decide (1 ≤ a) := rfl
  rw [e]
  cases decide (1 ≤ a) <;> rfl
theorem x100 (k : Nat) (a : Int) : F100 k a = some (decide (0 ≤ a) && decide (a ≤ 1099511627776)) := by
  unfold F100
  have e : decide (a ≥ 0) = decide (0 ≤ a) := rfl
  rw [e]
  cases decide (0 ≤ a) <;> rfl

theorem wi32 {a : Int} (h : 0 ≤ a) (h' : a ≤ 1114111) : w_i32 a = a := by
  unfold w_i32
  rw [IntKind.wrap_i32]; omega

/-- a character's bytes: there are some, or none -/
theorem x105 (k : Nat) (a : Int) : ∃ u v, F105 k a = some u ∧ F98 k a = some v ∧ decide (u > 0) = decide (v > 0) := by
  unfold F105 F98
  by_cases h1 : a < 0
  · rw [decide_eq_true h1]; exact ⟨0, 0, rfl, rfl, rfl⟩
  rw [decide_eq_false h1]
  by_cases h2 : a > 1114111
  · rw [decide_eq_true h2]; exact ⟨0, 0, rfl, rfl, rfl⟩
  rw [decide_eq_false h2]
  have bytes : (¬ (a ≥ 55296 ∧ a ≤ 57343)) → ∃ u v : Int, (F110 k (w_i32 a)).bind (fun r14 => some r14) = some u ∧ (bif decide (a < 128) then (some (1 : Int)) else (bif decide (a < 2048) then (some 2) else (bif decide (a < 65536) then (some 3) else (some 4)))) = some v ∧ decide (u > 0) = decide (v > 0) := by
    intro hs
    rw [wi32 (by omega) (by omega)]
    unfold F110
    rw [decide_eq_false h1]
    by_cases q1 : a < 128
    · rw [decide_eq_true q1, decide_eq_true (show a ≤ 127 by omega)]; exact ⟨1, 1, rfl, rfl, rfl⟩
    rw [decide_eq_false q1, decide_eq_false (show ¬ a ≤ 127 by omega)]
    by_cases q2 : a < 2048
    · rw [decide_eq_true q2, decide_eq_true (show a ≤ 2047 by omega)]; exact ⟨2, 2, rfl, rfl, rfl⟩
    rw [decide_eq_false q2, decide_eq_false (show ¬ a ≤ 2047 by omega)]
    have q3 : (bif decide (55296 ≤ a) then (some (decide (a ≤ 57343))) else (some false)) = some false := by
      by_cases q : 55296 ≤ a
      · rw [decide_eq_true q, decide_eq_false (show ¬ a ≤ 57343 by omega)]; rfl
      · rw [decide_eq_false q]; rfl
    rw [q3]
    by_cases q4 : a < 65536
    · rw [decide_eq_true q4, decide_eq_true (show a ≤ 65535 by omega)]; exact ⟨3, 3, rfl, rfl, rfl⟩
    rw [decide_eq_false q4, decide_eq_false (show ¬ a ≤ 65535 by omega), decide_eq_true (show a ≤ 1114111 by omega)]
    exact ⟨4, 4, rfl, rfl, rfl⟩
  by_cases h3 : a ≥ 55296
  · rw [decide_eq_true h3]
    by_cases h4 : a ≤ 57343
    · rw [decide_eq_true h4]; exact ⟨0, 0, rfl, rfl, rfl⟩
    · rw [decide_eq_false h4]; exact bytes (by omega)
  · rw [decide_eq_false h3]; exact bytes (by omega)

theorem e81 (k : Nat) (a b c : GItem) (h2 : (a.kind == 2) = false) : F81 k a = F91 k a b c := by
  obtain ⟨u, v, hu, hv, huv⟩ := x105 k a.rune
  unfold F81 F91
  simp only [t92, x104, x99, x100, hu, hv, Option.bind_some, huv, h2, cond_false]
  cases h1 : (a.kind == 1) with
  | true =>
    simp only [cond_true, beq_self_eq_true, Bool.true_and, Bool.and_true, Option.bind_some]
    cases (decide (1 ≤ a.size) && decide (a.size ≤ 67108864)) <;> cases (decide (0 ≤ a.width) && decide (a.width ≤ 1099511627776)) <;> cases (decide (0 ≤ a.height) && decide (a.height ≤ 1099511627776)) <;> cases (decide (0 ≤ a.depth) && decide (a.depth ≤ 1099511627776)) <;> cases decide (v > 0) <;> simp [bif_id]
  | false =>
  cases h3 : (a.kind == 3) with
  | true =>
    simp only [cond_true, cond_false, beq_self_eq_true, Bool.true_and, Bool.and_true, Option.bind_some, ge_iff_le]
    cases (decide (1 ≤ a.size) && decide (a.size ≤ 67108864)) <;> cases decide (0 ≤ a.width) <;> cases decide (a.width ≤ 67108864) <;> cases decide (0 ≤ a.stretch) <;> cases decide (a.stretch ≤ 67108864) <;> cases decide (0 ≤ a.shrink) <;> cases decide (a.shrink ≤ a.width) <;> simp [bif_id]
  | false =>
  cases h4 : (a.kind == 4) with
  | true =>
    simp only [cond_true, cond_false, beq_self_eq_true, Bool.true_and, Bool.and_true, Option.bind_some]
    by_cases q1 : a.value < -10000
    · rw [decide_eq_true q1, decide_eq_false (show ¬ -10000 ≤ a.value by omega)]
      cases a.flag <;> simp [bif_id]
    · rw [decide_eq_false q1, decide_eq_true (show -10000 ≤ a.value by omega)]
      by_cases q2 : a.value > 10000
      · rw [decide_eq_true q2, decide_eq_false (show ¬ a.value ≤ 10000 by omega)]
        cases a.flag <;> simp [bif_id]
      · rw [decide_eq_false q2, decide_eq_true (show a.value ≤ 10000 by omega)]
        cases a.flag with
        | false => simp
        | true =>
          cases (decide (1 ≤ a.size) && decide (a.size ≤ 67108864)) <;> cases (decide (0 ≤ a.width) && decide (a.width ≤ 1099511627776)) <;> cases (decide (0 ≤ a.height) && decide (a.height ≤ 1099511627776)) <;> cases (decide (0 ≤ a.depth) && decide (a.depth ≤ 1099511627776)) <;> cases (a.rune == 45) <;> cases decide (a.value > -10000) <;> simp [bif_id]
  | false => rfl

theorem e80 (k : Nat) (L : List GItem) (i : Nat) (y : GItem) (hl : L.length ≤ 4096) (hy : L[i]? = some y) (h2 : (y.kind == 2) = true) : F80 k L i = F91 k y (prevOf L i) (nextOf L i) := by
  have hi := lt_of_get hy
  have hy' : L[(i : Int).toNat]? = some y := by rw [show (i : Int).toNat = i by omega]; exact hy
  have e : y.kind = 2 := eq_of_beq h2
  unfold F80 F91
  simp only [bindI_eq (by omega : 0 ≤ (i : Int)) hy', t92, h2, show (y.kind == 1) = false by rw [e]; rfl, show (y.kind == 3) = false by rw [e]; rfl, show (y.kind == 4) = false by rw [e]; rfl, cond_true, cond_false, Option.bind_some]
  rw [w_id (n := (i : Int) + 1) (by omega) (by omega)]
  by_cases h0 : i = 0
  · subst h0
    have : prevOf L 0 = GItem.mk 0 ByteArray.empty 0 0 0 0 0 0 0 0 false 0 0 := rfl
    rw [this]; rfl
  · have h0' : ((i : Int) == 0) = false := by rw [beq_eq_false_iff_ne]; omega
    rw [h0', w_id (n := (i : Int) - 1) (by omega) (by omega)]
    obtain ⟨p, hp⟩ := at_of (L := L) (i := (i : Int) - 1) (by omega) (by omega)
    have ep : prevOf L i = p := by
      unfold prevOf
      rw [if_pos (by omega)]
      rw [show ((i : Int) - 1).toNat = i - 1 by omega] at hp
      rw [hp]; rfl
    rw [ep]
    by_cases h1 : i + 1 < L.length
    · rw [decide_eq_false (show ¬ ((i : Int) + 1 ≥ L.length) by omega)]
      obtain ⟨n, hn⟩ := at_of (L := L) (i := (i : Int) + 1) (by omega) (by omega)
      have en : nextOf L i = n := by
        unfold nextOf
        rw [show ((i : Int) + 1).toNat = i + 1 by omega] at hn
        rw [hn]; rfl
      rw [en]
      simp only [bindI_eq (by omega : 0 ≤ (i : Int) - 1) hp, bindI_eq (by omega : 0 ≤ (i : Int) + 1) hn, cond_false, Option.bind_some, e]
      cases hk1 : (p.kind == 1) with
      | false => simp [bne, hk1]
      | true =>
        cases hk2 : (n.kind == 1) with
        | false => simp [bne, hk1, hk2]
        | true =>
          simp only [bne, hk1, hk2, Bool.not_true, cond_true, cond_false, Option.bind_some, ge_iff_le]
          cases (y.width == 0) <;> cases decide (y.width ≤ 1099511627776) <;> cases decide (w (0 - if n.width < p.width then n.width else p.width) ≤ y.width) <;> simp [bif_id]
    · rw [decide_eq_true (show ((i : Int) + 1 ≥ L.length) by omega)]
      have en : nextOf L i = GItem.mk 0 ByteArray.empty 0 0 0 0 0 0 0 0 false 0 0 := by
        unfold nextOf
        rw [List.getElem?_eq_none (by omega)]; rfl
      rw [en]
      cases (p.kind == 1) <;> rfl

theorem hprev (L : List GItem) (i : Nat) (hi : i < L.length) (hl : L.length ≤ 4096) {β : Type} (f : Int × ByteArray × Int × Int × Int × Int × Int × Int × Int × Int × Bool × Int × Int → Option β) : (Option.bind (bif decide ((i : Int) > 0) then (bindI L (w ((i : Int) - 1)) fun y22 => some (y22.kind, y22.font, y22.size, y22.rune, y22.width, y22.height, y22.depth, y22.stretch, y22.shrink, y22.value, y22.flag, y22.from_, y22.to_)) else (some (0, ByteArray.empty, 0, 0, 0, 0, 0, 0, 0, 0, false, 0, 0))) f) =
    f ((prevOf L i).kind, (prevOf L i).font, (prevOf L i).size, (prevOf L i).rune, (prevOf L i).width, (prevOf L i).height, (prevOf L i).depth, (prevOf L i).stretch, (prevOf L i).shrink, (prevOf L i).value, (prevOf L i).flag, (prevOf L i).from_, (prevOf L i).to_) := by
  by_cases h0 : 0 < i
  · rw [decide_eq_true (show (i : Int) > 0 by omega), w_id (by omega) (by omega)]
    obtain ⟨z, hz⟩ := at_of (L := L) (i := (i : Int) - 1) (by omega) (by omega)
    rw [cond_true, bindI_eq (by omega) hz]
    unfold prevOf
    rw [if_pos h0]
    rw [show ((i : Int) - 1).toNat = i - 1 by omega] at hz
    rw [hz]; rfl
  · rw [decide_eq_false (show ¬ (i : Int) > 0 by omega), cond_false]
    unfold prevOf
    rw [if_neg h0]; rfl

theorem hnext (L : List GItem) (i : Nat) (hi : i < L.length) (hl : L.length ≤ 4096) {β : Type} (f : Int × ByteArray × Int × Int × Int × Int × Int × Int × Int × Int × Bool × Int × Int → Option β) : (Option.bind (bif decide ((w ((i : Int) + 1)) < (L.length : Int)) then (bindI L (w ((i : Int) + 1)) fun y22 => some (y22.kind, y22.font, y22.size, y22.rune, y22.width, y22.height, y22.depth, y22.stretch, y22.shrink, y22.value, y22.flag, y22.from_, y22.to_)) else (some (0, ByteArray.empty, 0, 0, 0, 0, 0, 0, 0, 0, false, 0, 0))) f) =
    f ((nextOf L i).kind, (nextOf L i).font, (nextOf L i).size, (nextOf L i).rune, (nextOf L i).width, (nextOf L i).height, (nextOf L i).depth, (nextOf L i).stretch, (nextOf L i).shrink, (nextOf L i).value, (nextOf L i).flag, (nextOf L i).from_, (nextOf L i).to_) := by
  rw [w_id (n := (i : Int) + 1) (by omega) (by omega)]
  by_cases h0 : i + 1 < L.length
  · rw [decide_eq_true (show (i : Int) + 1 < L.length by omega)]
    obtain ⟨z, hz⟩ := at_of (L := L) (i := (i : Int) + 1) (by omega) (by omega)
    rw [cond_true, bindI_eq (by omega) hz]
    unfold nextOf
    rw [show ((i : Int) + 1).toNat = i + 1 by omega] at hz
    rw [hz]; rfl
  · rw [decide_eq_false (show ¬ (i : Int) + 1 < L.length by omega), cond_false]
    unfold nextOf
    rw [List.getElem?_eq_none (by omega)]; rfl

theorem e64_l1 (k : Nat) (L : List GItem) (hl : L.length ≤ 4096) : ∀ (j : Nat) (v : Int) (i : Nat), i ≤ L.length → F40_l1 k L j v i = F64_l1 k L j v i
  | 0, v, i, h1 => rfl
  | j + 1, v, i, h1 => by
    unfold F40_l1 F64_l1
    by_cases hi : (i : Int) < L.length
    · rw [decide_eq_true hi]
      obtain ⟨y, hy⟩ := at_of (L := L) (i := (i : Int)) (by omega) hi
      have hb := fun {β : Type} (f : GItem → Option β) => bindI_eq (f := f) (by omega : 0 ≤ (i : Int)) hy
      have hy' : L[i]? = some y := by rw [show (i : Int).toNat = i by omega] at hy; exact hy
      have ih : ∀ v', F40_l1 k L j v' (w ((i : Int) + 1)) = F64_l1 k L j v' (w ((i : Int) + 1)) := by
        intro v'
        rw [w_id (n := (i : Int) + 1) (by omega) (by omega)]
        exact e64_l1 k L hl j v' (i + 1) (by omega)
      rw [cond_true, cond_true]
      simp only [hb, ih, hprev L i (by omega) hl, hnext L i (by omega) hl]
      obtain ⟨r, hr, _⟩ := t91 k y (prevOf L i) (nextOf L i)
      cases h2 : (y.kind == 2) with
      | true =>
        rw [e80 k L i y hl hy' h2, hr]
        simp only [Option.bind_some, cond_true]
      | false =>
        rw [e81 k y (prevOf L i) (nextOf L i) h2, hr]
        simp only [Option.bind_some, cond_false, t92]
        cases r with
        | false => rfl
        | true =>
          simp only [Bool.not_true, cond_false, Option.bind_some]
          cases decide (y.from_ < v) with
          | true => rfl
          | false =>
            simp only [cond_false, Option.bind_some]
            by_cases q1 : y.to_ < y.from_
            · rw [decide_eq_true q1, decide_eq_false (show ¬ y.from_ ≤ y.to_ by omega)]; rfl
            · rw [decide_eq_false q1, decide_eq_true (show y.from_ ≤ y.to_ by omega)]
              by_cases q2 : y.to_ > 65536
              · rw [decide_eq_true q2, decide_eq_false (show ¬ y.to_ ≤ 65536 by omega)]; rfl
              · rw [decide_eq_false q2, decide_eq_true (show y.to_ ≤ 65536 by omega)]; rfl
    · rw [decide_eq_false hi]; rfl

theorem x79 (k : Nat) (y : GItem) : F79 k y = some (y.kind == 4 && decide (y.value ≤ -10000)) := by
  unfold F79
  cases (y.kind == 4) <;> rfl

theorem e64 (k : Nat) (L : List GItem) (hk : L.length < k) : ∃ r s, F64 k L = some r ∧ F40 k L = some s ∧ (r != 0) = (s != 0) := by
  unfold F64 F40
  cases hc : decide ((L.length : Int) > 4096) with
  | true => exact ⟨130, 130, rfl, rfl, rfl⟩
  | false =>
    have hl : ¬ (L.length : Int) > 4096 := of_decide_eq_false hc
    obtain ⟨q, h1, h2⟩ := t64_l1 k L (by omega) k 0 0 (by omega) (by omega)
    have h1' : F64_l1 k L k 0 0 = some q := h1
    have h3' : F40_l1 k L k 0 0 = some q := (e64_l1 k L (by omega) k 0 0 (by omega)).trans h1
    rw [cond_false, cond_false, h1', h3']
    by_cases h0 : 0 < L.length
    · obtain ⟨y, hy⟩ := at_of (L := L) (i := (L.length : Int) - 1) (by omega) (by omega)
      have hb := fun {β : Type} (f : GItem → Option β) => bindI_eq (f := f) (by omega : 0 ≤ (L.length : Int) - 1) hy
      rw [decide_eq_true (show (L.length : Int) > 0 by omega), w_id (n := (L.length : Int) - 1) (by omega) (by omega)]
      simp only [hb, x79, cond_true, Option.bind_some]
      cases q with
      | inr n =>
        have hn : (n != 0) = true := by
          rw [bne_iff_ne]
          intro e
          subst e
          exact t64_no k L k 0 0 h1'
        cases (!(y.kind == 4 && decide (y.value ≤ -10000))) with
        | true => exact ⟨n, 1, rfl, rfl, hn⟩
        | false => exact ⟨n, n, rfl, rfl, rfl⟩
      | inl u =>
        have g := (h2 rfl) _ y (Nat.zero_le _) hy
        cases q4 : (y.kind == 4) with
        | false => exact ⟨1, 1, by simp [bne, q4], by simp, rfl⟩
        | true =>
          have hv := g.val (eq_of_beq q4)
          by_cases q5 : y.value = -10000
          · exact ⟨0, 0, by simp [bne, q4, q5], by simp [q5], rfl⟩
          · have q5' : (y.value == -10000) = false := by rw [beq_eq_false_iff_ne]; exact q5
            exact ⟨1, 1, by simp [bne, q4, q5'], by rw [decide_eq_false (show ¬ y.value ≤ -10000 by omega)]; rfl, rfl⟩
    · rw [decide_eq_false (show ¬ (L.length : Int) > 0 by omega)]
      cases q with
      | inr n => exact ⟨n, n, rfl, rfl, rfl⟩
      | inl u => exact ⟨0, 0, rfl, rfl, rfl⟩






def B95 (k : Nat) (b c s : Int) (g : Bool) : Option (Int × Int × Bool) :=
  Option.bind (α := Bool) (bif decide (s < 0) then (some (decide (s < (w (0 - c))))) else (some false)) fun (v4 : Bool) =>
  bif v4 then (some (10000, 0, true)) else (Option.bind (α := Bool) (bif s == 0 then (some true) else (Option.bind (α := Bool) (bif decide (s > 0) then (some g) else (some false)) fun (v6 : Bool) =>
  some v6)) fun (v5 : Bool) =>
  bif v5 then (some (0, 1, false)) else (bif decide (s < 0) then (bindD c ((F106 k (w (Int.tdiv (w (100 * (w (0 - s)))) c))).bind fun r19 =>
  bif decide ((w (Int.tdiv (w (100 * (w (0 - s)))) c)) > 50) then (some (r19, 0, false)) else (some (r19, 1, false)))) else (bif b == 0 then (some (10000, 3, false)) else (bindD b ((F106 k (if 1000 < w (Int.tdiv (w (100 * s)) b) then 1000 else w (Int.tdiv (w (100 * s)) b))).bind fun r24 =>
  bif decide ((if 1000 < w (Int.tdiv (w (100 * s)) b) then 1000 else w (Int.tdiv (w (100 * s)) b)) ≤ 50) then (some (r24, 1, false)) else (bif decide ((if 1000 < w (Int.tdiv (w (100 * s)) b) then 1000 else w (Int.tdiv (w (100 * s)) b)) ≤ 100) then (some (r24, 2, false)) else (some (r24, 3, false))))))))

theorem x95 (k : Nat) (v1 v7 a3 n b c s : Int) (f g : Bool) (u v : Int) : F95 k (GLine.mk v1 v7 a3 n b c s 0 0 false f g u v) = (B95 k b c s g).bind fun p => some (GLine.mk v1 v7 a3 n b c s p.1 p.2.1 p.2.2 f g u v) := rfl

theorem x106 (k : Nat) (x : Int) (h : 0 ≤ x) (h' : x ≤ 1000) : ∃ r, F106 k x = some r ∧ 0 ≤ r ∧ r ≤ 10000 := by
  unfold F106
  refine ⟨_, rfl, ?_⟩
  have a1 : 0 * 0 ≤ x * x := Int.mul_le_mul h h (by omega) (by omega)
  have a2 : x * x ≤ 1000 * 1000 := Int.mul_le_mul h' h' (by omega) (by omega)
  have a3 : 0 * 0 ≤ x * x * x := Int.mul_le_mul (by omega) h (by omega) (by omega)
  have a4 : x * x * x ≤ 1000000 * 1000 := Int.mul_le_mul (by omega) h' (by omega) (by omega)
  rw [w_id (n := x * x) (by omega) (by omega), w_id (n := x * x * x) (by omega) (by omega), Int.tdiv_eq_ediv_of_nonneg (by omega)]
  rw [w_id (n := x * x * x / 10000) (by omega) (by omega)]
  split <;> omega

theorem t95B (k : Nat) (b c s : Int) (g : Bool) (hs : 0 ≤ b) (hs' : b ≤ 274877906944) (hk : 0 ≤ c) (hk' : c ≤ 274877906944) (ht : -9007199254740992 ≤ s) (ht' : s ≤ 9007199254740992) :
    ∃ p q o, B95 k b c s g = some (p, q, o) ∧ (0 ≤ p ∧ p ≤ 10000 ∧ 0 ≤ q ∧ q ≤ 3) ∧ (o = true → s < 0 - c ∧ p = 10000 ∧ q = 0) ∧ (s < 0 - c → o = true) := by
  unfold B95
  rw [w_id (n := 0 - c) (by omega) (by omega), w_id (n := 0 - s) (by omega) (by omega)]
  by_cases h1 : s < 0
  · rw [decide_eq_true h1]
    by_cases h2 : s < 0 - c
    · rw [decide_eq_true h2]
      exact ⟨10000, 0, true, rfl, by omega, fun _ => ⟨h2, rfl, rfl⟩, fun _ => rfl⟩
    · rw [decide_eq_false h2]
      have h3 : (s == 0) = false := by rw [beq_eq_false_iff_ne]; omega
      have h4 : decide (s > 0) = false := decide_eq_false (by omega)
      rw [h3, h4]
      have d0 : 0 ≤ 100 * (0 - s) / c := Int.ediv_nonneg (by omega) (by omega)
      have d2 : 100 * (0 - s) / c < 101 := Int.ediv_lt_of_lt_mul (by omega) (by omega)
      rw [w_id (n := 100 * (0 - s)) (by omega) (by omega), Int.tdiv_eq_ediv_of_nonneg (by omega), w_id (n := 100 * (0 - s) / c) (by omega) (by omega)]
      obtain ⟨q, hq, q1, q2⟩ := x106 k (100 * (0 - s) / c) d0 (by omega)
      simp only [cond_true, cond_false, Option.bind_some, bindD, if_neg (show ¬ c = 0 by omega), hq]
      cases decide (100 * (0 - s) / c > 50)
      · exact ⟨q, 1, false, rfl, by omega, fun h => (by cases h), fun h => (by omega)⟩
      · exact ⟨q, 0, false, rfl, by omega, fun h => (by cases h), fun h => (by omega)⟩
  · rw [decide_eq_false h1]
    by_cases h3 : s = 0
    · have h3' : (s == 0) = true := by rw [h3]; rfl
      rw [h3']
      exact ⟨0, 1, false, rfl, by omega, fun h => (by cases h), fun h => (by omega)⟩
    · have h3' : (s == 0) = false := by rw [beq_eq_false_iff_ne]; exact h3
      rw [h3', decide_eq_true (show s > 0 by omega)]
      cases g with
      | true => exact ⟨0, 1, false, rfl, by omega, fun h => (by cases h), fun h => (by omega)⟩
      | false =>
      by_cases h4 : b = 0
      · have h4' : (b == 0) = true := by rw [h4]; rfl
        rw [h4']
        exact ⟨10000, 3, false, rfl, by omega, fun h => (by cases h), fun h => (by omega)⟩
      · have h4' : (b == 0) = false := by rw [beq_eq_false_iff_ne]; exact h4
        rw [h4']
        have d0 : 0 ≤ 100 * s / b := Int.ediv_nonneg (by omega) (by omega)
        have d1 : 100 * s / b ≤ 100 * s := Int.ediv_le_self _ (by omega)
        have ew : w (Int.tdiv (w (100 * s)) b) = 100 * s / b := by
          rw [w_id (n := 100 * s) (by omega) (by omega), Int.tdiv_eq_ediv_of_nonneg (by omega), w_id (by omega) (by omega)]
        rw [ew]
        generalize hd : (if 1000 < 100 * s / b then (1000 : Int) else 100 * s / b) = d
        obtain ⟨q, hq, q1, q2⟩ := x106 k d (by rw [← hd]; split <;> omega) (by rw [← hd]; split <;> omega)
        simp only [cond_true, cond_false, Option.bind_some, bindD, if_neg h4, hq]
        cases decide (d ≤ 50) with
        | true => exact ⟨q, 1, false, rfl, by omega, fun h => (by cases h), fun h => (by omega)⟩
        | false =>
          cases decide (d ≤ 100) with
          | true => exact ⟨q, 2, false, rfl, by omega, fun h => (by cases h), fun h => (by omega)⟩
          | false => exact ⟨q, 3, false, rfl, by omega, fun h => (by cases h), fun h => (by omega)⟩

/-- the line's last item -/
def tailOf (y : GItem) (n u v : Int) : Int × Bool × Bool × Int × Int :=
  bif y.kind == 4 then (w (n + y.width), y.flag, decide (y.value ≤ -10000), (bif y.flag then (if y.height > u then y.height else u) else u), (bif y.flag then (if y.depth > v then y.depth else v) else v)) else (n, false, false, u, v)

structure Core (k : Nat) (L : List GItem) (a2 a3 v1 v7 n b c u v : Int) (y : GItem) : Prop where
  lo : a2 + 1 ≤ v1
  mid : v1 ≤ v7
  hi : v7 ≤ a3
  first : v1 < v7 → ∃ z, L[v1.toNat]? = some z ∧ z.kind = 1
  last : v1 < v7 → ∃ z, L[(v7 - 1).toNat]? = some z ∧ z.kind = 1
  sum : F71_l3 k ((L.take v7.toNat).drop v1.toNat) k 0 0 0 0 0 0 = some (n, b, c, u, v)
  n1 : -4503599627370496 ≤ n
  n2 : n ≤ 4503599627370496
  b1 : 0 ≤ b
  b2 : b ≤ 274877906944
  c1 : 0 ≤ c
  c2 : c ≤ 274877906944
  at_ : L[a3.toNat]? = some y
  eq : ∀ a1, F71 k L a1 a2 a3 = F95 k (GLine.mk v1 v7 a3 (tailOf y n u v).1 b c (w (a1 - (tailOf y n u v).1)) 0 0 false (tailOf y n u v).2.1 (tailOf y n u v).2.2.1 (tailOf y n u v).2.2.2.1 (tailOf y n u v).2.2.2.2)

theorem first_l1 (k : Nat) (L : List GItem) (a3 : Int) (hl : L.length ≤ 4096) (h3 : a3 < L.length) : ∀ (j : Nat) (v r : Int), 0 ≤ v → v ≤ a3 → F71_l1 k L a3 j v = some r → r < a3 → ∃ z, L[r.toNat]? = some z ∧ z.kind = 1
  | 0, v, r, h0, h1, h, hr => by cases h
  | j + 1, v, r, h0, h1, h, hr => by
    unfold F71_l1 at h
    by_cases hv : v < a3
    · obtain ⟨y, hy⟩ := at_of (L := L) (i := v) (by omega) (by omega)
      rw [decide_eq_true hv, cond_true, bindI_eq (by omega) hy, Option.bind_some] at h
      cases hk : (y.kind != 1) with
      | false =>
        rw [hk] at h
        cases h
        exact ⟨y, hy, by simpa [bne] using hk⟩
      | true =>
        rw [hk, cond_true, w_id (n := v + 1) (by omega) (by omega)] at h
        exact first_l1 k L a3 hl h3 j (v + 1) r (by omega) (by omega) h hr
    · rw [decide_eq_false hv] at h
      cases h
      omega

theorem last_l2 (k : Nat) (L : List GItem) (v1 : Int) (hl : L.length ≤ 4096) (h0 : 0 ≤ v1) : ∀ (j : Nat) (v r : Int), v1 ≤ v → v ≤ L.length → F71_l2 k L v1 j v = some r → v1 < r → ∃ z, L[(r - 1).toNat]? = some z ∧ z.kind = 1
  | 0, v, r, h1, h3, h, hr => by cases h
  | j + 1, v, r, h1, h3, h, hr => by
    unfold F71_l2 at h
    by_cases hv : v > v1
    · obtain ⟨y, hy⟩ := at_of (L := L) (i := v - 1) (by omega) (by omega)
      rw [decide_eq_true hv, cond_true, w_id (n := v - 1) (by omega) (by omega), bindI_eq (by omega) hy, Option.bind_some] at h
      cases hk : (y.kind != 1) with
      | false =>
        rw [hk] at h
        cases h
        exact ⟨y, hy, by simpa [bne] using hk⟩
      | true =>
        rw [hk, cond_true] at h
        exact last_l2 k L v1 hl h0 j (v - 1) r (by omega) (by omega) h hr
    · rw [decide_eq_false hv] at h
      cases h
      omega

theorem core_of (k : Nat) (L : List GItem) (a2 a3 : Int) (hl : L.length ≤ 4096) (hk : L.length < k) (hf : ∀ (t : Nat) (y : GItem), L[t]? = some y → Fine y) (h2 : -1 ≤ a2) (h3 : a2 < a3) (h4 : a3 < L.length) :
    ∃ v1 v7 n b c u v y, Core k L a2 a3 v1 v7 n b c u v y := by
  obtain ⟨v1, e1, k1, k2⟩ := t71_l1 k L a3 hl h4 k (a2 + 1) (by omega) (by omega) (by omega)
  obtain ⟨v7, e2, k3, k4⟩ := t71_l2 k L v1 hl (by omega) k a3 (by omega) (by omega) (by omega)
  obtain ⟨a, b, c, d, e, e3, b1, b2, b3, b4, b5, b6⟩ := t71_l3 k ((L.take v7.toNat).drop v1.toNat) (by simp; omega) (fun t y hy => by
    rw [List.getElem?_drop, List.getElem?_take] at hy
    split at hy
    · exact hf _ y hy
    · cases hy) k 0 0 0 0 0 0 (by omega) (by simp; omega) (by omega) (by omega) (by omega) (by omega) (by omega) (by omega)
  have e3' : F71_l3 k ((L.take v7.toNat).drop v1.toNat) k 0 0 0 0 0 0 = some (a, b, c, d, e) := e3
  obtain ⟨y, hy⟩ := at_of (L := L) (i := a3) (by omega) h4
  refine ⟨v1, v7, a, b, c, d, e, y, k1, k3, k4, fun h => first_l1 k L a3 hl h4 k (a2 + 1) v1 (by omega) (by omega) e1 (by omega), fun h => last_l2 k L v1 hl (by omega) k a3 v7 (by omega) (by omega) e2 h, e3', b1, b2, b3, b4, b5, b6, hy, fun a1 => ?_⟩
  unfold F71
  rw [w_id (n := a2 + 1) (by omega) (by omega), e1, Option.bind_some, e2, Option.bind_some]
  unfold bindS
  rw [if_pos ⟨by omega, by omega, by omega⟩]
  dsimp only
  rw [e3', Option.bind_some]
  dsimp only
  rw [bindI_eq (by omega) hy]
  unfold tailOf
  have fin : ∀ x : Option GLine, (x.bind fun r51 => some r51) = x := fun x => by cases x <;> rfl
  cases q : (y.kind == 4) with
  | false => simp only [cond_false, Option.bind_some, fin]
  | true =>
    simp only [x70, q, Bool.true_and, cond_true, Option.bind_some]
    cases hy' : y.flag with
    | false => simp only [cond_false, Option.bind_some, fin]
    | true => simp only [cond_true, Option.bind_some, fin]






def zeroL : GLine := GLine.mk 0 0 0 0 0 0 0 0 0 false false false 0 0

structure Legal (k : Nat) (L : List GItem) (a1 a2 a3 : Int) : Prop where
  len : L.length ≤ 4096
  fine : ∀ (t : Nat) (y : GItem), L[t]? = some y → Fine y
  w1 : 1 ≤ a1
  w2 : a1 ≤ 536870912
  f1 : -1 ≤ a2
  f2 : a2 < a3
  f3 : a3 < L.length
  to_ : F68 k L a3 = some true
  from_ : a2 ≥ 0 → F68 k L a2 = some true
  free : F69_70 k ((L.take a3.toNat).drop (a2 + 1).toNat) = some false
  chk : F64 k L = some 0

theorem g34 (k : Nat) (L : List GItem) (a1 a2 a3 : Int) (h : Legal k L a1 a2 a3) : F34 k L a1 a2 a3 = (F71 k L a1 a2 a3).bind fun r => some (r, 0) := by
  have h1 := h.len; have h2 := h.w1; have h3 := h.w2; have h4 := h.f1; have h5 := h.f2; have h6 := h.f3
  unfold F34
  rw [h.chk, Option.bind_some, decide_eq_false (show ¬ a1 < 1 by omega), decide_eq_false (show ¬ a1 > 536870912 by omega), decide_eq_false (show ¬ a2 < -1 by omega), decide_eq_false (show ¬ a2 ≥ a3 by omega), decide_eq_false (show ¬ a3 ≥ L.length by omega), h.to_, w_id (n := a2 + 1) (by omega) (by omega)]
  unfold bindS
  rw [if_pos ⟨by omega, by omega, by omega⟩]
  dsimp only
  rw [h.free]
  by_cases h7 : a2 ≥ 0
  · rw [decide_eq_true h7, h.from_ h7]; rfl
  · rw [decide_eq_false h7]; rfl

/-- no forced break: place by place -/
theorem free_l1 (k : Nat) (L : List GItem) (hl : L.length ≤ 4096) : ∀ (j i : Nat), i ≤ L.length → L.length < j + i → (∀ (t : Nat) (y : GItem), i ≤ t → L[t]? = some y → (y.kind == 4 && decide (y.value ≤ -10000)) = false) → F94_70_l1 k L j i = some (.inl ())
  | 0, i, h1, h2, h => by omega
  | j + 1, i, h1, h2, h => by
    unfold F94_70_l1
    by_cases hi : (i : Int) < L.length
    · obtain ⟨y, hy⟩ := at_of (L := L) (i := (i : Int)) (by omega) hi
      rw [decide_eq_true hi, cond_true, bindI_eq (by omega) hy, x70, h (i : Int).toNat y (by omega) hy, Option.bind_some, cond_false, w_id (n := (i : Int) + 1) (by omega) (by omega)]
      exact free_l1 k L hl j (i + 1) (by omega) (by omega) fun t y ht => h t y (by omega)
    · rw [decide_eq_false hi]; rfl

theorem unfree_l1 (k : Nat) (L : List GItem) (hl : L.length ≤ 4096) : ∀ (j i : Nat), F94_70_l1 k L j i = some (.inl ()) → ∀ (t : Nat) (y : GItem), i ≤ t → L[t]? = some y → (y.kind == 4 && decide (y.value ≤ -10000)) = false
  | 0, i, h, t, y, ht, hy => by cases h
  | j + 1, i, h, t, y, ht, hy => by
    have htl := lt_of_get hy
    unfold F94_70_l1 at h
    obtain ⟨z, hz⟩ := at_of (L := L) (i := (i : Int)) (by omega) (by omega)
    rw [decide_eq_true (show (i : Int) < L.length by omega), cond_true, bindI_eq (by omega) hz, x70, Option.bind_some, w_id (n := (i : Int) + 1) (by omega) (by omega)] at h
    cases hq : (z.kind == 4 && decide (z.value ≤ -10000)) with
    | true => rw [hq] at h; cases h
    | false =>
      rw [hq, cond_false] at h
      by_cases hti : t = i
      · subst hti
        rw [show (t : Int).toNat = t by omega] at hz
        rw [hy] at hz; cases hz; exact hq
      · exact unfree_l1 k L hl j (i + 1) h t y (by omega) hy

theorem no_inr (k : Nat) (L : List GItem) : ∀ (j : Nat) (i n : Int), 0 ≤ i → i + j < 9223372036854775807 → F94_70_l1 k L j i = some (.inr n) → 0 ≤ n
  | 0, i, n, h0, hb, h => by cases h
  | j + 1, i, n, h0, hb, h => by
    unfold F94_70_l1 at h
    cases hc : decide (i < (L.length : Int)) with
    | false => rw [hc] at h; cases h
    | true =>
      rw [hc, cond_true] at h
      obtain ⟨y, _, _, h⟩ := bindI_some h
      obtain ⟨b, _, h⟩ := bind_some h
      cases b with
      | true => cases h; exact h0
      | false =>
        rw [cond_false, w_id (n := i + 1) (by omega) (by omega)] at h
        exact no_inr k L j (i + 1) n (by omega) (by omega) h

theorem free_of (k : Nat) (L : List GItem) (hl : L.length ≤ 4096) (hk : L.length < k) (h : ∀ (t : Nat) (y : GItem), L[t]? = some y → (y.kind == 4 && decide (y.value ≤ -10000)) = false) : F69_70 k L = some false := by
  unfold F69_70 F94_70
  have := free_l1 k L hl k 0 (by omega) (by omega) fun t y _ => h t y
  have h' : F94_70_l1 k L k 0 = some (.inl ()) := this
  rw [h']; rfl

theorem unfree (k : Nat) (L : List GItem) (hl : L.length ≤ 4096) (hk : (k : Int) < 9223372036854775807) (h : F69_70 k L = some false) : ∀ (t : Nat) (y : GItem), L[t]? = some y → (y.kind == 4 && decide (y.value ≤ -10000)) = false := by
  unfold F69_70 F94_70 at h
  obtain ⟨r, hr, h⟩ := bind_some h
  obtain ⟨q, hq, hr⟩ := bind_some hr
  cases q with
  | inl u => exact fun t y hy => unfree_l1 k L hl k 0 hq t y (by omega) hy
  | inr n =>
    have := no_inr k L k 0 n (by omega) (by omega) hq
    have e : some n = some r := hr
    cases e
    have h' : some (decide (r ≥ 0)) = some false := h
    rw [decide_eq_true this] at h'
    cases h'






theorem kind_of68 (k : Nat) (L : List GItem) (i : Int) (y : GItem) (h0 : 0 ≤ i) (hy : L[i.toNat]? = some y) (h : F68 k L i = some true) : (y.kind == 3) = true ∨ ((y.kind == 4) = true ∧ y.value < 10000) := by
  unfold F68 at h
  rw [bindI_eq h0 hy] at h
  cases q : (y.kind == 3) with
  | true => exact .inl rfl
  | false =>
    rw [q, cond_false] at h
    cases q4 : (y.kind == 4) with
    | false => rw [q4] at h; cases h
    | true =>
      rw [q4, cond_true, bindI_eq h0 hy] at h
      exact .inr ⟨rfl, of_decide_eq_true (Option.some.inj h)⟩

theorem same_pen {y : GItem} (hf : Fine y) : (y.kind == 4 && (y.value == -10000)) = (y.kind == 4 && decide (y.value ≤ -10000)) := by
  cases q : (y.kind == 4) with
  | false => rfl
  | true =>
    have := hf.val (eq_of_beq q)
    rw [Bool.true_and, Bool.true_and, Bool.eq_iff_iff]
    simp
    omega

theorem bindA_eq {α β : Type} {n : Nat} {L M : List α} {f : List α → Option β} (h : (5 * (L.length + M.length) + 768) * n ≤ 1125899906842624) : bindA n L M f = f (L ++ M) := if_pos h

def frc (y : GItem) : Bool := y.kind == 4 && decide (y.value ≤ -10000)

theorem x69 (k : Nat) (L : List GItem) (hl : L.length ≤ 4096) (hk : L.length < k) (hk' : (k : Int) < 9223372036854775807) : F69_70 k L = some (L.any frc) := by
  cases h : L.any frc with
  | false =>
    refine free_of k L hl hk fun t y hy => ?_
    have := List.any_eq_false.1 h y (List.mem_of_getElem? hy)
    simpa [frc] using this
  | true =>
    obtain ⟨r, hr⟩ := t69 k L hl hk
    cases r with
    | true => exact hr
    | false =>
      have := unfree k L hl hk' hr
      obtain ⟨y, hm, hy⟩ := List.any_eq_true.1 h
      obtain ⟨t, ht, e⟩ := List.mem_iff_getElem.1 hm
      have := this t y (by rw [List.getElem?_eq_getElem ht, e])
      rw [show frc y = (y.kind == 4 && decide (y.value ≤ -10000)) from rfl, this] at hy
      cases hy

/-- no line must end between two places -/
def Free (L : List GItem) (lo hi : Int) : Prop := ∀ (t : Nat) (y : GItem), lo < t → (t : Int) < hi → L[t]? = some y → frc y = false

theorem any_mid {L : List GItem} {lo hi : Int} (h0 : -1 ≤ lo) (h1 : hi ≤ L.length) : (((L.take hi.toNat).drop (lo + 1).toNat).any frc = false) ↔ Free L lo hi := by
  rw [List.any_eq_false]
  constructor
  · intro h t y a b hy
    have := h y (by
      refine List.mem_of_getElem? (i := t - (lo + 1).toNat) ?_
      rw [List.getElem?_drop, List.getElem?_take, if_pos (by omega), show (lo + 1).toNat + (t - (lo + 1).toNat) = t by omega]
      exact hy)
    simpa using this
  · intro h y hm
    obtain ⟨i, e⟩ := List.mem_iff_getElem?.1 hm
    rw [List.getElem?_drop, List.getElem?_take] at e
    split at e
    · rename_i hlt
      have := h _ y (by omega) (by omega) e
      rw [this]; simp
    · cases e

theorem t36 (k : Nat) (L : List GItem) (a b : GLine) : ∃ r, F36 k L a b = some r := by
  have hI : ∀ (i : Int) {β : Type} (f : GItem → Option β), 0 ≤ i → i < L.length → (∀ y, ∃ r, f y = some r) → ∃ r, bindI L i f = some r := by
    intro i β f h1 h2 h3
    obtain ⟨y, hy⟩ := at_of (L := L) (i := i) h1 h2
    rw [bindI_eq h1 hy]; exact h3 y
  have hB : ∀ {β γ : Type} (x : Option β) (f : β → Option γ), (∃ r, x = some r) → (∀ v, ∃ r, f v = some r) → ∃ r, Option.bind x f = some r := by
    rintro β γ x f ⟨r, rfl⟩ h
    exact h r
  have h75 : ∀ x y z, ∃ r, F75 k x y z = some r := fun x y z => ⟨_, rfl⟩
  have fin : ∀ (v1 r1 : Int), (∀ z, z = v1 → True) → True := fun _ _ _ => trivial
  unfold F36
  refine hB _ _ (h75 _ _ _) fun r1 => ?_
  have rest : ∀ v4 : Int, ∃ r, (Option.bind (α := Int × Int) (bif decide (a.first ≥ 0) then ((F75 k a.class_ 0 3).bind fun r27 =>
Option.bind (α := Bool) (bif a.hyphen then (some b.hyphen) else (some false)) fun (v9 : Bool) =>
bif v9 then (some (w (v4 + 3000), r27)) else (some (v4, r27))) else (some (v4, 1))) fun (v7, v8) =>
(F75 k b.class_ 0 3).bind fun r35 =>
Option.bind (α := Bool) (bif decide ((w (v8 - r35)) > 1) then (some true) else (some (decide ((w (v8 - r35)) < (-1))))) fun (v10 : Bool) =>
Option.bind (α := Int) (bif v10 then (some (w (v7 + 3000))) else (some v7)) fun (v11 : Int) =>
some v11) = some r := by
    intro v4
    refine hB _ _ ?_ fun (v7, v8) => ?_
    · cases decide (a.first ≥ 0) with
      | false => exact ⟨_, rfl⟩
      | true =>
        refine hB _ _ ?_ fun v9 => ?_
        · cases a.hyphen <;> exact ⟨_, rfl⟩
        · cases v9 <;> exact ⟨_, rfl⟩
    · refine hB _ _ (h75 _ _ _) fun r35 => hB _ _ ?_ fun v10 => hB _ _ ?_ fun v11 => ⟨_, rfl⟩
      · cases decide ((w (v8 - r35)) > 1) <;> exact ⟨_, rfl⟩
      · cases v10 <;> exact ⟨_, rfl⟩
  by_cases h1 : b.break_ ≥ 0 ∧ b.break_ < L.length
  · rw [decide_eq_true h1.1, decide_eq_true h1.2, cond_true, cond_true]
    refine hB _ _ ?_ fun v1 => hB _ _ ?_ fun v4 => rest v4
    · exact hB _ _ (hI _ _ h1.1 h1.2 fun y => ⟨_, rfl⟩) fun v2 => ⟨_, rfl⟩
    · cases v1 with
      | false => exact ⟨_, rfl⟩
      | true =>
        refine hI _ _ h1.1 h1.2 fun y => hB _ _ ?_ fun v6 => ⟨_, rfl⟩
        cases decide (y.value ≥ 0) with
        | true => exact ⟨_, rfl⟩
        | false => cases decide (y.value > -10000) <;> exact ⟨_, rfl⟩
  · have e' : (bif decide (b.break_ ≥ 0) then (Option.bind (α := Bool) (bif decide (b.break_ < (L.length : Int)) then (bindI L b.break_ fun y3 =>
some (y3.kind == 4)) else (some false)) fun (v2 : Bool) =>
some v2) else (some false)) = some false := by
      by_cases h2 : b.break_ ≥ 0
      · rw [decide_eq_true h2, decide_eq_false (show ¬ b.break_ < L.length by omega)]; rfl
      · rw [decide_eq_false h2]; rfl
    rw [e']
    exact rest _


/-! ### Boxes, counted -/
def nb (L : List GItem) : Nat := (L.filter fun y => y.kind == 1).length
theorem nb_append (A B : List GItem) : nb (A ++ B) = nb A + nb B := by unfold nb; rw [List.filter_append, List.length_append]
theorem nb_le (A : List GItem) : nb A ≤ A.length := List.length_filter_le _ _
theorem nb_split (L : List GItem) {m n : Nat} (h : m ≤ n) : nb (L.take n) = nb (L.take m) + nb ((L.take n).drop m) := by
  rw [← nb_append]
  congr 1
  have := (List.take_append_drop m (L.take n)).symm
  rw [List.take_take, Nat.min_eq_left h] at this
  exact this
theorem nb_zero (L : List GItem) {m n : Nat} (h : ∀ (t : Nat) (y : GItem), m ≤ t → t < n → L[t]? = some y → (y.kind == 1) = false) : nb ((L.take n).drop m) = 0 := by
  unfold nb
  rw [List.length_eq_zero_iff, List.filter_eq_nil_iff]
  intro y hy
  obtain ⟨i, e⟩ := List.mem_iff_getElem?.1 hy
  rw [List.getElem?_drop, List.getElem?_take] at e
  split at e
  · rename_i hlt
    rw [h _ y (by omega) hlt e]; simp
  · cases e
theorem nb_step (L : List GItem) {i n : Nat} {y : GItem} (hi : i < n) (hn : n ≤ L.length) (hy : L[i]? = some y) : nb ((L.take n).drop i) = (if (y.kind == 1) = true then 1 else 0) + nb ((L.take n).drop (i + 1)) := by
  have h1 : (L.take n)[i]? = some y := by rw [List.getElem?_take, if_pos hi]; exact hy
  rw [drop_at h1]
  unfold nb
  rw [List.filter_cons]
  split <;> simp <;> omega

theorem t12_l6 (k : Nat) (L : List GItem) (r : GLine × Int) (hl : L.length ≤ 4096) (n : Nat) (hr : r.1.last = n) (hn : n ≤ L.length) : ∀ (j i : Nat) (v : Int), i ≤ n → n < j + i → 0 ≤ v → v + (n - i : Nat) ≤ 100000 → F12_l6 k L r j v i = some (v + nb ((L.take n).drop i))
  | 0, i, v, h1, h2, _, _ => by omega
  | j + 1, i, v, h1, h2, h3, h4 => by
    unfold F12_l6
    by_cases hi : i < n
    · rw [hr, decide_eq_true (show (i : Int) < n by omega), cond_true]
      obtain ⟨y, hy⟩ := at_of (L := L) (i := (i : Int)) (by omega) (by omega)
      have hy' : L[i]? = some y := by rw [show (i : Int).toNat = i by omega] at hy; exact hy
      rw [bindI_eq (by omega) hy, nb_step L hi hn hy', w_id (n := (i : Int) + 1) (by omega) (by omega)]
      have e1 : ((i : Int) + 1) = ((i + 1 : Nat) : Int) := by omega
      cases hk : (y.kind == 1) with
      | true =>
        have hb := nb_le ((L.take n).drop (i + 1))
        rw [List.length_drop, List.length_take] at hb
        simp only [cond_true, Option.bind_some, if_true]
        rw [e1, w_id (by omega) (by omega), t12_l6 k L r hl n hr hn j (i + 1) (v + 1) (by omega) (by omega) (by omega) (by omega)]
        congr 1
        omega
      | false =>
        simp only [cond_false, Option.bind_some, Bool.false_eq_true, if_false]
        rw [e1, t12_l6 k L r hl n hr hn j (i + 1) v (by omega) (by omega) (by omega) (by omega)]
        congr 1
        omega
    · have : i = n := by omega
      subst this
      rw [hr, decide_eq_false (by omega), cond_false]
      rw [List.drop_eq_nil_of_le (by simp; omega)]
      simp [nb]

theorem t12_l7 (k : Nat) (L : List GItem) (hl : L.length ≤ 4096) : ∀ (j i : Nat) (v : Int), i ≤ L.length → L.length < j + i → -100000 ≤ v - (L.length - i : Nat) → v ≤ 100000 → F12_l7 k L j v i = some (v - nb (L.drop i))
  | 0, i, v, h1, h2, _, _ => by omega
  | j + 1, i, v, h1, h2, h3, h4 => by
    unfold F12_l7
    by_cases hi : i < L.length
    · rw [decide_eq_true (show (i : Int) < L.length by omega), cond_true]
      obtain ⟨y, hy⟩ := at_of (L := L) (i := (i : Int)) (by omega) (by omega)
      have hy' : L[i]? = some y := by rw [show (i : Int).toNat = i by omega] at hy; exact hy
      have hs := nb_step L hi (Nat.le_refl _) hy'
      rw [List.take_of_length_le (Nat.le_refl _)] at hs
      rw [bindI_eq (by omega) hy, hs, w_id (n := (i : Int) + 1) (by omega) (by omega)]
      have e1 : ((i : Int) + 1) = ((i + 1 : Nat) : Int) := by omega
      cases hk : (y.kind == 1) with
      | true =>
        simp only [cond_true, Option.bind_some, if_true]
        rw [e1, w_id (by omega) (by omega), t12_l7 k L hl j (i + 1) (v - 1) (by omega) (by omega) (by omega) (by omega)]
        congr 1
        omega
      | false =>
        simp only [cond_false, Option.bind_some, Bool.false_eq_true, if_false]
        rw [e1, t12_l7 k L hl j (i + 1) v (by omega) (by omega) (by omega) (by omega)]
        congr 1
        omega
    · have : i = L.length := by omega
      subst this
      rw [decide_eq_false (by omega), cond_false]
      rw [List.drop_eq_nil_of_le (Nat.le_refl _)]
      simp [nb]

theorem t12_l4 (k : Nat) (L : List GItem) (W : List Int) (m : Int) (b : Int) (h0 : 0 ≤ m) (hm : W[m.toNat]? = some b) (hl : L.length ≤ 4096) (hb : b < L.length) : ∀ (j : Nat) (v : Int), 0 ≤ v → b < j + v → 0 < j → (∀ (t : Nat) (y : GItem), v ≤ t → (t : Int) < b → L[t]? = some y → (y.kind == 1) = false) → F12_l4 k L W m j v = some (.inl ())
  | 0, v, _, h2, h3, _ => by omega
  | j + 1, v, h1, h2, h3, h4 => by
    unfold F12_l4
    rw [bindI_eq h0 hm]
    by_cases hv : v < b
    · obtain ⟨y, hy⟩ := at_of (L := L) (i := v) h1 (by omega)
      rw [decide_eq_true hv, cond_true, bindI_eq h1 hy, h4 _ y (by omega) (by omega) hy, cond_false, w_id (n := v + 1) (by omega) (by omega)]
      exact t12_l4 k L W m b h0 hm hl hb j (v + 1) (by omega) (by omega) (by omega) (fun t y a => h4 t y (by omega))
    · rw [decide_eq_false hv]; rfl

theorem t12_l5 (k : Nat) (L : List GItem) (r : GLine × Int) (hl : L.length ≤ 4096) (hb : r.1.first ≤ L.length) : ∀ (j : Nat) (v : Int), 0 ≤ v → r.1.first < j + v → 0 < j → (∀ (t : Nat) (y : GItem), v ≤ t → (t : Int) < r.1.first → L[t]? = some y → (y.kind == 1) = false) → F12_l5 k L r j v = some (.inl ())
  | 0, v, _, h2, h3, _ => by omega
  | j + 1, v, h1, h2, h3, h4 => by
    unfold F12_l5
    by_cases hv : v < r.1.first
    · obtain ⟨y, hy⟩ := at_of (L := L) (i := v) h1 (by omega)
      rw [decide_eq_true hv, cond_true, bindI_eq h1 hy, h4 _ y (by omega) (by omega) hy, cond_false, w_id (n := v + 1) (by omega) (by omega)]
      exact t12_l5 k L r hl hb j (v + 1) (by omega) (by omega) (by omega) (fun t y a => h4 t y (by omega))
    · rw [decide_eq_false hv]; rfl

/-! ### A line's first and last item -/
theorem free1 (k : Nat) (L : List GItem) (a3 : Int) (hl : L.length ≤ 4096) (h3 : a3 < L.length) : ∀ (j : Nat) (v r : Int), 0 ≤ v → v ≤ a3 → F71_l1 k L a3 j v = some r → ∀ (t : Nat) (y : GItem), v ≤ t → (t : Int) < r → L[t]? = some y → (y.kind == 1) = false
  | 0, v, r, h0, h1, h => by cases h
  | j + 1, v, r, h0, h1, h => by
    intro t y a b hy
    unfold F71_l1 at h
    by_cases hv : v < a3
    · obtain ⟨z, hz⟩ := at_of (L := L) (i := v) (by omega) (by omega)
      rw [decide_eq_true hv, cond_true, bindI_eq (by omega) hz, Option.bind_some] at h
      cases hk : (z.kind != 1) with
      | false => rw [hk] at h; cases h; omega
      | true =>
        rw [hk, cond_true, w_id (n := v + 1) (by omega) (by omega)] at h
        by_cases e : (t : Int) = v
        · rw [show v.toNat = t by omega, hy] at hz
          cases hz
          simpa [bne] using hk
        · exact free1 k L a3 hl h3 j (v + 1) r (by omega) (by omega) h t y (by omega) b hy
    · rw [decide_eq_false hv] at h
      cases h
      omega

theorem free2 (k : Nat) (L : List GItem) (v1 : Int) (hl : L.length ≤ 4096) (h0 : 0 ≤ v1) : ∀ (j : Nat) (v r : Int), v1 ≤ v → v ≤ L.length → F71_l2 k L v1 j v = some r → ∀ (t : Nat) (y : GItem), r ≤ t → (t : Int) < v → L[t]? = some y → (y.kind == 1) = false
  | 0, v, r, h1, h3, h => by cases h
  | j + 1, v, r, h1, h3, h => by
    intro t y a b hy
    unfold F71_l2 at h
    by_cases hv : v > v1
    · obtain ⟨z, hz⟩ := at_of (L := L) (i := v - 1) (by omega) (by omega)
      rw [decide_eq_true hv, cond_true, w_id (n := v - 1) (by omega) (by omega), bindI_eq (by omega) hz, Option.bind_some] at h
      cases hk : (z.kind != 1) with
      | false => rw [hk] at h; cases h; omega
      | true =>
        rw [hk, cond_true] at h
        by_cases e : (t : Int) = v - 1
        · rw [show (v - 1).toNat = t by omega, hy] at hz
          cases hz
          simpa [bne] using hk
        · exact free2 k L v1 hl h0 j (v - 1) r (by omega) (by omega) h t y a (by omega) hy
    · rw [decide_eq_false hv] at h
      cases h
      omega

/-- what a line has -/
structure Has (L : List GItem) (a2 a3 : Int) (r : GLine) : Prop where
  brk : r.break_ = a3
  lo : a2 + 1 ≤ r.first
  mid : r.first ≤ r.last
  hi : r.last ≤ a3
  one : r.first = r.last → r.first = a3
  first : r.first < r.last → ∃ z, L[r.first.toNat]? = some z ∧ z.kind = 1
  last : r.first < r.last → ∃ z, L[(r.last - 1).toNat]? = some z ∧ z.kind = 1
  ahead : ∀ (t : Nat) (y : GItem), a2 + 1 ≤ t → (t : Int) < r.first → L[t]? = some y → (y.kind == 1) = false
  behind : ∀ (t : Nat) (y : GItem), r.last ≤ t → (t : Int) < a3 → L[t]? = some y → (y.kind == 1) = false

theorem has_of (k : Nat) (L : List GItem) (a1 a2 a3 : Int) (hl : L.length ≤ 4096) (hk : L.length < k) (hf : ∀ (t : Nat) (y : GItem), L[t]? = some y → Fine y) (h1 : 1 ≤ a1) (h1' : a1 ≤ 536870912) (h2 : -1 ≤ a2) (h3 : a2 < a3) (h4 : a3 < L.length) :
    ∃ r, F71 k L a1 a2 a3 = some r ∧ Has L a2 a3 r := by
  obtain ⟨r, hr, _⟩ := t71 k L a1 a2 a3 hl hk hf h1 h1' h2 h3 h4
  refine ⟨r, hr, ?_⟩
  obtain ⟨v1, e1, k1, k2⟩ := t71_l1 k L a3 hl h4 k (a2 + 1) (by omega) (by omega) (by omega)
  obtain ⟨v7, e2, k3, k4⟩ := t71_l2 k L v1 hl (by omega) k a3 (by omega) (by omega) (by omega)
  have hfirst : r.first = v1 ∧ r.last = v7 ∧ r.break_ = a3 := by
    unfold F71 at hr
    rw [w_id (n := a2 + 1) (by omega) (by omega), e1, Option.bind_some, e2, Option.bind_some] at hr
    obtain ⟨_, _, _, hr⟩ := bindS_some hr
    obtain ⟨p, _, hr⟩ := bind_some hr
    obtain ⟨p1, p2, p3, p4, p5⟩ := p
    obtain ⟨y, _, _, hr⟩ := bindI_some hr
    obtain ⟨q, _, hr⟩ := bind_some hr
    obtain ⟨q1, q2, q3, q4, q5⟩ := q
    obtain ⟨x, hx, hr⟩ := bind_some hr
    cases hr
    rw [x95] at hx
    obtain ⟨z, _, hz⟩ := bind_some hx
    cases hz
    exact ⟨rfl, rfl, rfl⟩
  obtain ⟨f1, f2, f3⟩ := hfirst
  have hbox : v1 < a3 → ∃ z, L[v1.toNat]? = some z ∧ z.kind = 1 := fun h => first_l1 k L a3 hl h4 k (a2 + 1) v1 (by omega) (by omega) e1 h
  have hbeh := free2 k L v1 hl (by omega) k a3 v7 (by omega) (by omega) e2
  refine ⟨f3, by omega, by omega, by omega, fun h => ?_, fun h => ?_, fun h => ?_, ?_, ?_⟩
  · rw [f1, f2] at h
    rw [f1]
    by_cases e : v1 < a3
    · obtain ⟨z, hz, hk1⟩ := hbox e
      have := hbeh v1.toNat z (by omega) (by omega) hz
      rw [hk1] at this; cases this
    · omega
  · rw [f1] at h ⊢
    exact hbox (by omega)
  · rw [f1, f2] at h
    rw [f2]
    exact last_l2 k L v1 hl (by omega) k a3 v7 (by omega) (by omega) e2 h
  · rw [f1]; exact free1 k L a3 hl h4 k (a2 + 1) v1 (by omega) (by omega) e1
  · rw [f2]; exact hbeh

theorem chk_last (k : Nat) (L : List GItem) (hl : L.length ≤ 4096) (h : F64 k L = some 0) (h0 : 0 < L.length) : ∃ y, L[L.length - 1]? = some y ∧ frc y = true := by
  unfold F64 at h
  rw [decide_eq_false (show ¬ (L.length : Int) > 4096 by omega), cond_false] at h
  obtain ⟨q, hq, h⟩ := bind_some h
  cases q with
  | inr n =>
    have hn : n = 0 := by simpa using h
    subst hn
    exact absurd hq (t64_no k L k 0 0)
  | inl u =>
    obtain ⟨y, hy⟩ := at_of (L := L) (i := (L.length : Int) - 1) (by omega) (by omega)
    simp only [Sum.elim_inl] at h
    rw [decide_eq_true (show (L.length : Int) > 0 by omega), cond_true, w_id (n := (L.length : Int) - 1) (by omega) (by omega), bindI_eq (by omega) hy, bindI_eq (by omega) hy] at h
    refine ⟨y, by rw [show ((L.length : Int) - 1).toNat = L.length - 1 by omega] at hy; exact hy, ?_⟩
    cases hk : (y.kind != 4) with
    | true => rw [hk] at h; cases h
    | false =>
      rw [hk] at h
      cases hv : (y.value != (-10000)) with
      | true => rw [hv] at h; cases h
      | false =>
        have e1 : y.kind = 4 := by simpa [bne] using hk
        have e2 : y.value = -10000 := by simpa [bne] using hv
        unfold frc
        rw [e1, e2]; rfl

/-- breaks that are a way, behind one -/
def WF (k : Nat) (L : List GItem) : Int → List Int → Prop
  | last, [] => Free L last L.length
  | last, b :: W => last < b ∧ b < L.length ∧ F68 k L b = some true ∧ Free L last b ∧ WF k L b W

theorem frc_legal (k : Nat) (L : List GItem) (i : Nat) (y : GItem) (hy : L[i]? = some y) (h : frc y = true) : F68 k L i = some true := by
  have h4 : (y.kind == 4) = true := by
    unfold frc at h
    cases e : (y.kind == 4) with
    | true => rfl
    | false => rw [e] at h; cases h
  have h3 : (y.kind == 3) = false := by
    have := eq_of_beq h4
    rw [this]; rfl
  have hv : y.value < 10000 := by
    unfold frc at h
    rw [h4, Bool.true_and, decide_eq_true_iff] at h
    omega
  have hy' : L[(i : Int).toNat]? = some y := by rw [show (i : Int).toNat = i by omega]; exact hy
  unfold F68
  rw [bindI_eq (by omega) hy', h3, cond_false, h4, cond_true, bindI_eq (by omega) hy', decide_eq_true hv]

theorem walk_way (k : Nat) (L : List GItem) (P : List Bool) (hl : L.length ≤ 4096) (hf : ∀ (t : Nat) (y : GItem), L[t]? = some y → Fine y) : ∀ (j i : Nat) (last : Int) (acc : List Int) (n : Nat), L.length < j + i → i ≤ L.length → -1 ≤ last → last < i → Free L last i → acc.length ≤ i → n ≤ i →
    ∃ A W m, walkL k L j i = some A ∧ A.length ≤ L.length - i ∧ F12_r2 k L P A acc n = some (.inl (acc ++ W, m)) ∧ WF k L last W ∧ W.length ≤ L.length - i
  | 0, i, last, acc, n, h1, h2, _, _, _, _, _ => by omega
  | j + 1, i, last, acc, n, h1, h2, h3, h4, h5, h6, h7 => by
    unfold walkL
    by_cases hi : i < L.length
    · obtain ⟨y, hy⟩ := at_of (L := L) (i := (i : Int)) (by omega) (by omega)
      have hy' : L[i]? = some y := by rw [show (i : Int).toNat = i by omega] at hy; exact hy
      obtain ⟨c, hc⟩ := t68 k L i (by omega) (by omega) hl
      have wi : w ((i : Int) + 1) = ((i + 1 : Nat) : Int) := by rw [w_id (by omega) (by omega)]; omega
      have wn : w ((n : Int) + 1) = ((n + 1 : Nat) : Int) := by rw [w_id (by omega) (by omega)]; omega
      rw [decide_eq_true (show (i : Int) < L.length by omega), cond_true, hc, Option.bind_some, wi]
      have ext : frc y = false → Free L last (i + 1 : Nat) := fun e t z a b hz => by
        by_cases q : t = i
        · subst q; rw [hy'] at hz; cases hz; exact e
        · exact h5 t z a (by omega) hz
      cases c with
      | false =>
        have hn : frc y = false := by
          cases e : frc y with
          | false => rfl
          | true => rw [frc_legal k L i y hy' e] at hc; cases hc
        obtain ⟨A, W, m, e1, e2, e3, e4, e5⟩ := walk_way k L P hl hf j (i + 1) last acc n (by omega) (by omega) h3 (by omega) (ext hn) (by omega) (by omega)
        exact ⟨A, W, m, by rw [e1]; rfl, by omega, e3, e4, by omega⟩
      | true =>
        have hfr : (y.kind == 4 && (y.value == -10000)) = frc y := same_pen (hf i y hy')
        -- taken, or not
        have take : ∃ A W m, walkL k L j (i + 1 : Nat) = some A ∧ A.length ≤ L.length - (i + 1) ∧ F12_r2 k L P A (acc ++ [(i : Int)]) (n + 1 : Nat) = some (.inl ((acc ++ [(i : Int)]) ++ W, m)) ∧ WF k L i W ∧ W.length ≤ L.length - (i + 1) :=
          walk_way k L P hl hf j (i + 1) i (acc ++ [(i : Int)]) (n + 1) (by omega) (by omega) (by omega) (by omega) (fun t z a b _ => by omega) (by simp; omega) (by omega)
        have head : ∀ A, F12_r2 k L P ((i : Int) :: A) acc n = Option.bind (α := Bool) (bif frc y then (some true) else (Option.bind (α := Bool) (bif decide ((n : Int) < (P.length : Int)) then (bindI P n fun y18 => some y18) else (some false)) fun (v17 : Bool) => some v17)) fun (v16 : Bool) =>
            Option.bind (α := List Int) (bif v16 then (bindA 8 acc ([(i : Int)]) fun l20 => some l20) else (some acc)) fun (v19 : List Int) => F12_r2 k L P A v19 (n + 1 : Nat) := by
          intro A
          conv => lhs; unfold F12_r2
          rw [decide_eq_false (show ¬ (i : Int) < 0 by omega), decide_eq_false (show ¬ (i : Int) ≥ L.length by omega)]
          simp only [cond_false, Option.bind_some]
          rw [bindI_eq (by omega) hy, bindI_eq (by omega) hy, wn]
          cases q4 : (y.kind == 4) with
          | true =>
            rw [q4, Bool.true_and] at hfr
            rw [cond_true, Option.bind_some, hfr]
          | false =>
            rw [q4, Bool.false_and] at hfr
            rw [cond_false, Option.bind_some, ← hfr]
        have hA : bindA 8 acc ([(i : Int)]) (fun l20 => some l20) = some (acc ++ [(i : Int)]) := by
          unfold bindA
          rw [if_pos (by simp; omega)]
        have yes : ∀ A, F12_r2 k L P A (acc ++ [(i : Int)]) (n + 1 : Nat) = Option.bind (α := List Int) (bif true then (bindA 8 acc ([(i : Int)]) fun l20 => some l20) else (some acc)) fun (v19 : List Int) => F12_r2 k L P A v19 (n + 1 : Nat) := fun A => by rw [cond_true, hA]; rfl
        cases e : frc y with
        | true =>
          obtain ⟨A, W, m, e1, e2, e3, e4, e5⟩ := take
          refine ⟨(i : Int) :: A, (i : Int) :: W, m, by rw [e1]; rfl, by simp; omega, ?_, ⟨h4, by omega, hc, h5, e4⟩, by simp; omega⟩
          rw [head, e, cond_true, Option.bind_some, ← yes, e3, List.append_assoc]
          rfl
        | false =>
          have hp : ∃ b, (Option.bind (α := Bool) (bif decide ((n : Int) < (P.length : Int)) then (bindI P n fun y18 => some y18) else (some false)) fun (v17 : Bool) => some v17) = some b := by
            by_cases hn : (n : Int) < P.length
            · obtain ⟨b, hb⟩ := at_of (L := P) (i := (n : Int)) (by omega) hn
              exact ⟨b, by rw [decide_eq_true hn, cond_true, bindI_eq (by omega) hb]; rfl⟩
            · exact ⟨false, by rw [decide_eq_false hn]; rfl⟩
          obtain ⟨b, hb⟩ := hp
          cases b with
          | true =>
            obtain ⟨A, W, m, e1, e2, e3, e4, e5⟩ := take
            refine ⟨(i : Int) :: A, (i : Int) :: W, m, by rw [e1]; rfl, by simp; omega, ?_, ⟨h4, by omega, hc, h5, e4⟩, by simp; omega⟩
            rw [head, e, cond_false, hb, Option.bind_some, ← yes, e3, List.append_assoc]
            rfl
          | false =>
            obtain ⟨A, W, m, e1, e2, e3, e4, e5⟩ := walk_way k L P hl hf j (i + 1) last acc (n + 1) (by omega) (by omega) h3 (by omega) (ext e) (by omega) (by omega)
            refine ⟨(i : Int) :: A, W, m, by rw [e1]; rfl, by simp; omega, ?_, e4, by omega⟩
            rw [head, e, cond_false, hb, Option.bind_some, cond_false, Option.bind_some]
            exact e3
    · have : i = L.length := by omega
      subst this
      rw [decide_eq_false (by omega), cond_false]
      exact ⟨[], [], n, rfl, by simp, by rw [F12_r2]; simp, h5, by simp⟩

theorem way_true (k : Nat) (L : List GItem) (W0 : List Int) (hl : L.length ≤ 4096) (hk : L.length < k) (hk' : (k : Int) < 9223372036854775807) (hw : W0.length ≤ 4096) : ∀ (j : Nat) (W : List Int) (m : Nat) (last : Int), W0.drop m = W → m ≤ W0.length → W0.length < j + m → -1 ≤ last → last < L.length ∨ last = -1 → WF k L last W →
    ∃ v, F77_l1 k L W0 j last m = some (.inl v) ∧ -1 ≤ v ∧ v ≤ L.length ∧ Free L v L.length
  | 0, W, m, last, hd, h1, h2, _, _, _ => by omega
  | j + 1, W, m, last, hd, h1, h2, h3, h4, h5 => by
    unfold F77_l1
    cases W with
    | nil =>
      have : W0.length ≤ m := by
        have := congrArg List.length hd
        simp at this
        omega
      rw [decide_eq_false (show ¬ (m : Int) < W0.length by omega), cond_false]
      exact ⟨last, rfl, h3, by omega, h5⟩
    | cons b W =>
      obtain ⟨q1, q2, q3, q4, q5⟩ := h5
      have hm : m < W0.length := by
        rcases Nat.lt_or_ge m W0.length with h | h
        · exact h
        · rw [List.drop_eq_nil_of_le h] at hd; cases hd
      have hb : W0[m]? = some b ∧ W0.drop (m + 1) = W := by
        rw [List.drop_eq_getElem_cons hm] at hd
        simp only [List.cons.injEq] at hd
        exact ⟨by rw [List.getElem?_eq_getElem hm, hd.1], hd.2⟩
      have hb' : W0[(m : Int).toNat]? = some b := by rw [show (m : Int).toNat = m by omega]; exact hb.1
      have wm : w ((m : Int) + 1) = ((m + 1 : Nat) : Int) := by rw [w_id (by omega) (by omega)]; omega
      have e0 : ((L.take b.toNat).drop (last + 1).toNat).any frc = false := (any_mid h3 (by omega)).2 q4
      rw [decide_eq_true (show (m : Int) < W0.length by omega), cond_true, bindI_eq (by omega) hb', decide_eq_false (show ¬ b ≤ last by omega), decide_eq_false (show ¬ b ≥ L.length by omega), q3, w_id (n := last + 1) (by omega) (by omega)]
      unfold bindS
      rw [if_pos ⟨by omega, by omega, by omega⟩]
      simp only [cond_false, Option.bind_some, Bool.not_true]
      rw [x69 k _ (by simp; omega) (by simp; omega) hk', e0]
      simp only [Option.bind_some, cond_false]
      rw [wm]
      exact way_true k L W0 hl hk hk' hw j W (m + 1) b hb.2 (by omega) (by omega) (by omega) (.inl q2) q5

theorem lines_ok (k : Nat) (L : List GItem) (a1 a2 : Int) (W0 : List Int) (hl : L.length ≤ 4096) (hk : L.length < k) (hk' : (k : Int) < 9223372036854775807) (hf : ∀ (t : Nat) (y : GItem), L[t]? = some y → Fine y) (hc : F64 k L = some 0) (h1 : 1 ≤ a1) (h1' : a1 ≤ 536870912) (hw : W0.length ≤ 4096) :
    ∀ (j : Nat) (W : List Int) (m : Nat) (last c t : Int) (x : GLine), W0.drop m = W → m ≤ W0.length → W0.length < j + m → -1 ≤ last → last < L.length ∨ last = -1 → (last ≥ 0 → F68 k L last = some true) → WF k L last W →
      ∃ c' t', F38_l1 k L a1 a2 W0 j last m c t x.first x.last x.break_ x.natural x.stretch x.shrink x.short x.bad x.class_ x.over_ x.hyphen x.end_ x.height x.depth = some (c', t') ∧
        F12_l3 k L a1 a2 W0 j last (nb (L.take (last + 1).toNat)) m x.first x.last x.break_ x.natural x.stretch x.shrink x.short x.bad x.class_ x.over_ x.hyphen x.end_ x.height x.depth c t = some (.inl (((nb L : Nat) : Int), c', t'))
  | 0, W, m, last, c, t, x, hd, h2, h3, _, _, _, _ => by omega
  | j + 1, W, m, last, c, t, x, hd, h2, h3, h4, h5, h6, h7 => by
    unfold F38_l1 F12_l3
    cases W with
    | nil =>
      have : W0.length ≤ m := by
        have := congrArg List.length hd
        simp at this
        omega
      rw [decide_eq_false (show ¬ (m : Int) < W0.length by omega)]
      have hall : L.take (last + 1).toNat = L := by
        apply List.take_of_length_le
        by_cases h0 : 0 < L.length
        · obtain ⟨y, hy, hfy⟩ := chk_last k L hl hc h0
          have h7' : Free L last L.length := h7
          rcases Nat.lt_or_ge (last + 1).toNat L.length with h | h
          · have := h7' (L.length - 1) y (by omega) (by omega) hy
            rw [hfy] at this; cases this
          · exact h
        · omega
      rw [hall]
      exact ⟨c, t, rfl, rfl⟩
    | cons b W =>
      obtain ⟨q1, q2, q3, q4, q5⟩ := h7
      have hm : m < W0.length := by
        rcases Nat.lt_or_ge m W0.length with h | h
        · exact h
        · rw [List.drop_eq_nil_of_le h] at hd; cases hd
      have hb : W0[m]? = some b ∧ W0.drop (m + 1) = W := by
        rw [List.drop_eq_getElem_cons hm] at hd
        simp only [List.cons.injEq] at hd
        exact ⟨by rw [List.getElem?_eq_getElem hm, hd.1], hd.2⟩
      have hb' : W0[(m : Int).toNat]? = some b := by rw [show (m : Int).toNat = m by omega]; exact hb.1
      have wm : w ((m : Int) + 1) = ((m + 1 : Nat) : Int) := by rw [w_id (by omega) (by omega)]; omega
      have e0 : ((L.take b.toNat).drop (last + 1).toNat).any frc = false := (any_mid h4 (by omega)).2 q4
      obtain ⟨r, hr, hh⟩ := has_of k L a1 last b hl hk hf h1 h1' h4 q1 q2
      have hleg : Legal k L a1 last b := ⟨hl, hf, h1, h1', h4, q1, q2, q3, h6, by rw [x69 k _ (by simp; omega) (by simp; omega) hk', e0], hc⟩
      have h34 : F34 k L a1 last b = some (r, 0) := by rw [g34 k L a1 last b hleg, hr]; rfl
      have g1 := hh.lo; have g2 := hh.mid; have g3 := hh.hi
      rw [decide_eq_true (show (m : Int) < W0.length by omega), cond_true, cond_true]
      simp only [bindI_eq (by omega : (0 : Int) ≤ m) hb', hr, h34, Option.bind_some, hh.brk]
      -- the checks
      have k1 : (b != b) = false := bne_self_eq_false b
      rw [k1, decide_eq_false (show ¬ r.last > b by omega), decide_eq_false (show ¬ r.first ≤ last by omega), decide_eq_false (show ¬ r.first > r.last by omega)]
      simp only [bne_self_eq_false, cond_false, Option.bind_some]
      have second : (Option.bind (α := Bool) (bif decide (r.first < r.last) then (bindI L r.first fun y119 =>
          Option.bind (α := Bool) (bif y119.kind != 1 then (some true) else (bindI L (w (r.last - 1)) fun y121 => some (y121.kind != 1))) fun (v120 : Bool) => some v120) else (some false)) fun (v118 : Bool) => some v118) = some false := by
        by_cases hlt : r.first < r.last
        · obtain ⟨z, hz, hz1⟩ := hh.first hlt
          obtain ⟨z', hz', hz1'⟩ := hh.last hlt
          rw [decide_eq_true hlt, cond_true, bindI_eq (by omega) hz, w_id (n := r.last - 1) (by omega) (by omega), bindI_eq (by omega) hz', hz1, hz1']
          rfl
        · rw [decide_eq_false hlt]; rfl
      have v111 : (Option.bind (α := Bool) (bif r.first == r.last then
          (Option.bind (α := Bool) (bif r.first != b then (some true) else (Option.bind (α := Bool) (bif decide (r.first < r.last) then (bindI L r.first fun y115 =>
          Option.bind (α := Bool) (bif y115.kind != 1 then (some true) else (bindI L (w (r.last - 1)) fun y117 => some (y117.kind != 1))) fun (v116 : Bool) => some v116) else (some false)) fun (v114 : Bool) => some v114)) fun (v113 : Bool) => some v113) else
          (Option.bind (α := Bool) (bif decide (r.first < r.last) then (bindI L r.first fun y119 =>
          Option.bind (α := Bool) (bif y119.kind != 1 then (some true) else (bindI L (w (r.last - 1)) fun y121 => some (y121.kind != 1))) fun (v120 : Bool) => some v120) else (some false)) fun (v118 : Bool) => some v118)) fun v => some v) = some false := by
        cases e : (r.first == r.last) with
        | false => rw [cond_false, second]; rfl
        | true =>
          have e1 := hh.one (eq_of_beq e)
          rw [cond_true, e1, bne_self_eq_false, cond_false]
          rw [e1] at second
          rw [second]; rfl
      have v111' := v111
      rw [Option.bind_fun_some] at v111'
      rw [v111']
      simp only [Option.bind_some, cond_false]
      have l4 := t12_l4 k L W0 m b (by omega) hb' hl q2 k r.last (by omega) (by omega) (by omega) hh.behind
      have l5 := t12_l5 k L (r, 0) hl (show r.first ≤ L.length by omega) k (last + 1) (by omega) (show r.first < k + (last + 1) by omega) (by omega) hh.ahead
      have l6 := t12_l6 k L (r, 0) hl r.last.toNat (show r.last = _ by omega) (by omega) k r.first.toNat (nb (L.take (last + 1).toNat)) (by omega) (by omega) (by omega) (by
        have := nb_le (L.take (last + 1).toNat)
        rw [List.length_take] at this
        omega)
      rw [show ((r.first.toNat : Nat) : Int) = r.first by omega] at l6
      rw [l4, w_id (n := last + 1) (by omega) (by omega), l5, l6]
      simp only [Option.bind_some, Sum.elim_inl]
      -- the boxes so far
      have hcount : ((nb (L.take (last + 1).toNat) : Nat) : Int) + nb ((L.take r.last.toNat).drop r.first.toNat) = nb (L.take (b + 1).toNat) := by
        have s1 := nb_split L (m := (last + 1).toNat) (n := r.first.toNat) (by omega)
        have s2 := nb_split L (m := r.first.toNat) (n := r.last.toNat) (by omega)
        have s3 := nb_split L (m := r.last.toNat) (n := (b + 1).toNat) (by omega)
        have z1 := nb_zero L (m := (last + 1).toNat) (n := r.first.toNat) (fun t y a a' hy => hh.ahead t y (by omega) (by omega) hy)
        have z3 := nb_zero L (m := r.last.toNat) (n := (b + 1).toNat) (fun t y a a' hy => by
          by_cases e : (t : Int) = b
          · have hy' : L[b.toNat]? = some y := by rw [show b.toNat = t by omega]; exact hy
            rcases kind_of68 k L b y (by omega) hy' q3 with e1 | ⟨e1, _⟩
            · rw [eq_of_beq e1]; rfl
            · rw [eq_of_beq e1]; rfl
          · exact hh.behind t y (by omega) (by omega) hy)
        omega
      rw [hcount]
      have hcase : (bif r.over_ then (some true) else (some (decide (r.bad > a2)))) = some (r.over_ || decide (r.bad > a2)) := by cases r.over_ <;> rfl
      rw [hcase, Option.bind_some, Option.bind_some]
      obtain ⟨d, hd36⟩ := t36 k L x r
      have hd36' : F36 k L (GLine.mk x.first x.last x.break_ x.natural x.stretch x.shrink x.short x.bad x.class_ x.over_ x.hyphen x.end_ x.height x.depth) r = some d := hd36
      rw [hd36']
      simp only [Option.bind_some]
      rw [wm]
      have rest : ∀ c' : Int, ∃ c2 t2, F38_l1 k L a1 a2 W0 j b (m + 1 : Nat) c' (w (t + d)) r.first r.last b r.natural r.stretch r.shrink r.short r.bad r.class_ r.over_ r.hyphen r.end_ r.height r.depth = some (c2, t2) ∧
          F12_l3 k L a1 a2 W0 j b (nb (L.take (b + 1).toNat)) (m + 1 : Nat) r.first r.last b r.natural r.stretch r.shrink r.short r.bad r.class_ r.over_ r.hyphen r.end_ r.height r.depth c' (w (t + d)) = some (.inl (((nb L : Nat) : Int), c2, t2)) := by
        intro c'
        have := lines_ok k L a1 a2 W0 hl hk hk' hf hc h1 h1' hw j W (m + 1) b c' (w (t + d)) r hb.2 (by omega) (by omega) (by omega) (.inl q2) (fun _ => q3) q5
        rw [hh.brk] at this
        exact this
      generalize (r.over_ || decide (r.bad > a2)) = q
      cases q with
      | true => exact rest (w (c + 1))
      | false => exact rest c

theorem r30 (k : Nat) : ∀ (A acc : List Int), acc.length + A.length ≤ 100000 → F30_r1 k A acc = some (acc ++ A)
  | [], acc, _ => by rw [F30_r1]; simp
  | y :: A, acc, h => by
    simp only [List.length_cons] at h
    rw [F30_r1]
    unfold bindA
    rw [if_pos (by simp; omega)]
    dsimp only
    rw [r30 k A (acc ++ [y]) (by simp; omega), List.append_assoc]
    rfl

/-- **What LineAdds computes is true.** -/
theorem t12 (L : List GItem) (a1 a2 : Int) (P : List Bool) (hl : (L.length : Int) < 9223372036854775808) : F12 (L.length + 4) L a1 a2 P = some true := by
  generalize hk : L.length + 4 = k
  unfold F12
  obtain ⟨b, hb1, hb'⟩ := t27 k L hl (by omega)
  rw [hb1, Option.bind_some]
  cases b with
  | true => rfl
  | false =>
    have hn := hb' rfl
    rw [cond_false]
    obtain ⟨r, hr, hg⟩ := t64 k L (by omega)
    obtain ⟨r', s, hr', hs, hrs⟩ := e64 k L (by omega)
    rw [hr] at hr'
    cases hr'
    by_cases h0 : r = 0
    · subst h0
      obtain ⟨hl, g⟩ := hg rfl
      have hf : ∀ (t : Nat) (y : GItem), L[t]? = some y → Fine y := fun t y hy => fine_of g hy
      have hs0 : (s != 0) = false := by rw [← hrs]; rfl
      obtain ⟨A, W, m, w1, w2, w3, w4, w5⟩ := walk_way k L P hl hf k 0 (-1) [] 0 (by omega) (by omega) (by omega) (by omega) (fun t y a b => by omega) (by simp) (by omega)
      have w1' : walkL k L k 0 = some A := w1
      have w3' : F12_r2 k L P A [] 0 = some (.inl (W, m)) := w3
      have h30 : F30 k L = some A := by
        unfold F30 F65
        rw [hr, Option.bind_some]
        have := r30 k A [] (by simp; omega)
        rw [List.nil_append] at this
        simp only [beq_self_eq_true, cond_true, Option.bind_some, w1', this]
      rw [h30, Option.bind_some, hs, Option.bind_some, hs0, cond_false]
      have hgl : ∀ {β : Type} (x : Option β), guardL A.length x = x := fun x => by
        unfold guardL
        rw [show Nat.ble (A.length + 2) 9223372036854775808 = true from by rw [Nat.ble_eq]; omega]
        rfl
      rw [hgl, w3', Option.bind_some]
      simp only [Sum.elim_inl, Option.bind_some]
      -- the way's cost
      obtain ⟨v, v1, v2, v3, v4⟩ := way_true k L W hl (by omega) (by omega) (by omega) k W 0 (-1) rfl (by omega) (by omega) (by omega) (.inr rfl) w4
      have v1' : F77_l1 k L W k (-1) 0 = some (.inl v) := v1
      have h77 : F77 k L W = some true := by
        unfold F77
        rw [v1', Option.bind_some]
        simp only [Sum.elim_inl]
        rw [w_id (n := v + 1) (by omega) (by omega)]
        by_cases hv : v + 1 ≤ L.length
        · unfold bindS
          rw [if_pos ⟨by omega, by omega, by omega⟩]
          dsimp only
          have e0 : ((L.take (L.length : Int).toNat).drop (v + 1).toNat).any frc = false := (any_mid v2 (by omega)).2 v4
          rw [x69 k _ (by simp; omega) (by simp; omega) (by omega), e0]
          rfl
        · exfalso
          have : v = L.length := by omega
          -- the last break is an item's
          have key : ∀ (j : Nat) (l : Int) (i : Int) (u : Int), l < L.length ∨ l = -1 → F77_l1 k L W j l i = some (.inl u) → u < L.length ∨ u = -1 := by
            intro j
            induction j with
            | zero => intro l i u hl' h; cases h
            | succ j ih =>
              intro l i u hl' h
              unfold F77_l1 at h
              cases hc : decide (i < (W.length : Int)) with
              | false => rw [hc] at h; cases h; exact hl'
              | true =>
                rw [hc, cond_true] at h
                obtain ⟨y, _, _, h⟩ := bindI_some h
                obtain ⟨q, hq, h⟩ := bind_some h
                cases q with
                | true => cases h
                | false =>
                  refine ih y _ u ?_ h
                  by_cases q1 : y ≤ l
                  · rw [decide_eq_true q1] at hq; cases hq
                  by_cases q2 : y ≥ L.length
                  · rw [decide_eq_false q1, decide_eq_true q2] at hq; cases hq
                  exact .inl (by omega)
          have := key k (-1) 0 v (.inr rfl) v1'
          omega
      by_cases c1 : a1 < 1
      · have h38 : F38 k L a1 a2 W = some (GCost.mk 0 0 0, 1) := by
          unfold F38
          rw [hr, Option.bind_some, decide_eq_true c1]; rfl
        rw [h38, decide_eq_true c1]; rfl
      by_cases c2 : a1 > 536870912
      · have h38 : F38 k L a1 a2 W = some (GCost.mk 0 0 0, 1) := by
          unfold F38
          rw [hr, Option.bind_some, decide_eq_false c1, decide_eq_true c2]; rfl
        rw [h38, decide_eq_false c1, decide_eq_true c2]; rfl
      by_cases c3 : a2 < 0
      · have h38 : F38 k L a1 a2 W = some (GCost.mk 0 0 0, 1) := by
          unfold F38
          rw [hr, Option.bind_some, decide_eq_false c1, decide_eq_false c2, decide_eq_true c3]; rfl
        rw [h38, decide_eq_false c1, decide_eq_false c2, decide_eq_true c3]; rfl
      by_cases c4 : a2 > 10000
      · have h38 : F38 k L a1 a2 W = some (GCost.mk 0 0 0, 1) := by
          unfold F38
          rw [hr, Option.bind_some, decide_eq_false c1, decide_eq_false c2, decide_eq_false c3, decide_eq_true c4]; rfl
        rw [h38, decide_eq_false c1, decide_eq_false c2, decide_eq_false c3, decide_eq_true c4]; rfl
      obtain ⟨c', t', q1, q2⟩ := lines_ok k L a1 a2 W hl (by omega) (by omega) hf hr (by omega) (by omega) (by omega) k W 0 (-1) 0 0 (GLine.mk (-1) 0 0 0 0 0 0 0 0 false false false 0 0) rfl (by omega) (by omega) (by omega) (.inr rfl) (fun h => by omega) w4
      have q1' : F38_l1 k L a1 a2 W k (-1) 0 0 0 (-1) 0 0 0 0 0 0 0 0 false false false 0 0 = some (c', t') := q1
      have q2' : F12_l3 k L a1 a2 W k (-1) 0 0 (-1) 0 0 0 0 0 0 0 0 false false false 0 0 0 0 = some (.inl (((nb L : Nat) : Int), c', t')) := q2
      have h38 : F38 k L a1 a2 W = some (GCost.mk c' t' W.length, 0) := by
        unfold F38
        rw [hr, Option.bind_some, decide_eq_false c1, decide_eq_false c2, decide_eq_false c3, decide_eq_false c4]
        simp only [bne_self_eq_false, cond_false, Option.bind_some, h77, Bool.not_true, q1']
      have l7 := t12_l7 k L hl k 0 (nb L) (by omega) (by omega) (by omega) (by have := nb_le L; omega)
      have l7' : F12_l7 k L k (nb L : Nat) 0 = some 0 := by
        rw [show ((0 : Nat) : Int) = 0 from rfl, List.drop_zero] at l7
        rw [l7]; simp
      rw [h38, decide_eq_false c1, decide_eq_false c2, decide_eq_false c3, decide_eq_false c4]
      simp only [Option.bind_some, cond_false, bne_self_eq_false, q2', Sum.elim_inl, l7', beq_self_eq_true, Bool.and_self, cond_true]
    · have h0' : (r != 0) = true := by rw [bne_iff_ne]; exact h0
      have h0'' : (r == 0) = false := by rw [beq_eq_false_iff_ne]; exact h0
      have hs0 : (s != 0) = true := by rw [← hrs]; exact h0'
      have h30 : F30 k L = some [] := by
        unfold F30
        rw [hr, Option.bind_some, h0'']; rfl
      rw [h30, Option.bind_some, hs, Option.bind_some, hs0, cond_true]
      rfl

end
end Go.Eng.Lift
