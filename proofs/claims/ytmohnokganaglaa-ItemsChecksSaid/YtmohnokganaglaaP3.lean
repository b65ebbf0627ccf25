/-
  Layer 13: ItemsChecks, the plain law: what is computed answers true.
-/
import Derived.Test.YtmohnokganaglaaX3
set_option linter.unusedVariables false
set_option linter.unusedSimpArgs false
namespace Go.Eng.Lift
open Go.Proofs
noncomputable section
theorem w_id {n : Int} (h1 : -9223372036854775808 ≤ n) (h2 : n < 9223372036854775808) : w n = n := by
  unfold w
  first | (rw [wrap64]; omega) | (simp [IntKind.wrap, IntKind.signed, IntKind.bits]; omega)
theorem w_ge (n : Int) : -9223372036854775808 ≤ w n := by
  unfold w
  first | (rw [wrap64]; omega) | (simp [IntKind.wrap, IntKind.signed, IntKind.bits]; omega)
theorem w_lt (n : Int) : w n < 9223372036854775808 := by
  unfold w
  first | (rw [wrap64]; omega) | (simp [IntKind.wrap, IntKind.signed, IntKind.bits]; omega)

theorem bindI_eq {α β : Type} {L : List α} {i : Int} {f : α → Option β} {y : α} (h : 0 ≤ i) (hy : L[i.toNat]? = some y) : bindI L i f = f y := by
  unfold bindI
  rw [if_pos h, hy]; rfl
theorem at_of {α : Type} {L : List α} {i : Int} (h : 0 ≤ i) (h2 : i < L.length) : ∃ y, L[i.toNat]? = some y := ⟨_, List.getElem?_eq_getElem (by omega)⟩

theorem t92 (k : Nat) (a b c : Int) : F15 k a b c = some (decide (b ≤ a) && decide (a ≤ c)) := by
  unfold F15
  cases decide (b ≤ a) <;> rfl

theorem t104 (k : Nat) (x : GItem) : ∃ r, F27 k x = some r ∧ (r = true → 0 ≤ x.width ∧ x.width ≤ 1099511627776) := by
  unfold F27
  simp only [t92, Option.bind_some]
  cases h1 : (decide (1 ≤ x.size) && decide (x.size ≤ 67108864)) with
  | false => exact ⟨false, rfl, fun h => by cases h⟩
  | true =>
    cases h2 : (decide (0 ≤ x.width) && decide (x.width ≤ 1099511627776)) with
    | false => exact ⟨false, rfl, fun h => by cases h⟩
    | true =>
      have h3 : 0 ≤ x.width ∧ x.width ≤ 1099511627776 := by simpa using h2
      cases h4 : (decide (0 ≤ x.height) && decide (x.height ≤ 1099511627776)) with
      | false => exact ⟨false, rfl, fun h => by cases h⟩
      | true => exact ⟨_, rfl, fun _ => h3⟩

theorem t110 (k : Nat) (a : Int) : ∃ r, F38 k a = some r := by
  unfold F38
  cases decide (a < 0) with
  | true => exact ⟨_, rfl⟩
  | false =>
  cases decide (a ≤ 127) with
  | true => exact ⟨_, rfl⟩
  | false =>
  cases decide (a ≤ 2047) with
  | true => exact ⟨_, rfl⟩
  | false =>
  cases decide (55296 ≤ a) <;> cases decide (a ≤ 57343) <;> cases decide (a ≤ 65535) <;> cases decide (a ≤ 1114111) <;> exact ⟨_, rfl⟩
theorem t105 (k : Nat) (a : Int) : ∃ r, F28 k a = some r := by
  unfold F28
  obtain ⟨r, hr⟩ := t110 k (w_i32 a)
  rw [hr]
  cases decide (a < 0) <;> simp only [cond_true, cond_false, Option.bind_some]
  · cases decide (a > 1114111) <;> simp only [cond_true, cond_false, Option.bind_some]
    · cases decide (a ≥ 55296) <;> simp only [cond_true, cond_false, Option.bind_some]
      · exact ⟨_, rfl⟩
      · cases decide (a ≤ 57343) <;> exact ⟨_, rfl⟩
    · exact ⟨_, rfl⟩
  · exact ⟨_, rfl⟩


/-- what the check tells of an item -/
structure Good (a b c : GItem) : Prop where
  box : a.kind = 1 → 0 ≤ a.width ∧ a.width ≤ 1099511627776
  kern : a.kind = 2 → b.kind = 1 ∧ c.kind = 1 ∧ w (0 - (if c.width < b.width then c.width else b.width)) ≤ a.width ∧ a.width ≤ 1099511627776
  glue : a.kind = 3 → (0 ≤ a.width ∧ a.width ≤ 67108864) ∧ (0 ≤ a.stretch ∧ a.stretch ≤ 67108864) ∧ 0 ≤ a.shrink ∧ a.shrink ≤ a.width
  pen : a.kind = 4 → 0 ≤ a.width ∧ a.width ≤ 1099511627776
  val : a.kind = 4 → -10000 ≤ a.value

theorem fin91 {b : Bool} {x : Bool} : ∃ r, (Option.bind (α := Bool) (bif b then some x else some false) fun v => some v) = some r ∧ (r = true → b = true) := by
  cases b
  · exact ⟨false, rfl, fun h => by cases h⟩
  · exact ⟨x, rfl, fun _ => rfl⟩

theorem t91 (k : Nat) (a b c : GItem) : ∃ r, F14 k a b c = some r ∧ (r = true → Good a b c) := by
  obtain ⟨q, hq, hq'⟩ := t104 k a
  obtain ⟨u, hu⟩ := t105 k a.rune
  unfold F14
  simp only [t92, hq, hu, Option.bind_some]
  cases h1 : (a.kind == 1) with
  | true =>
    have e : a.kind = 1 := eq_of_beq h1
    cases q with
    | false => exact ⟨false, rfl, fun h => by cases h⟩
    | true =>
      have := hq' rfl
      have g : Good a b c := ⟨fun _ => this, fun h => by omega, fun h => by omega, fun h => by omega, fun h => by omega⟩
      cases decide (u > 0) with
      | false => exact ⟨false, rfl, fun h => by cases h⟩
      | true => exact ⟨_, rfl, fun _ => g⟩
  | false =>
  cases h2 : (a.kind == 2) with
  | true =>
    have e : a.kind = 2 := eq_of_beq h2
    cases h3 : (b.kind == 1) with
    | false => exact ⟨false, rfl, fun h => by cases h⟩
    | true =>
    cases h4 : (c.kind == 1) with
    | false => exact ⟨false, rfl, fun h => by cases h⟩
    | true =>
    cases h5 : (a.width != 0) with
    | false => exact ⟨false, rfl, fun h => by cases h⟩
    | true =>
    cases h6 : (decide (w (0 - (if c.width < b.width then c.width else b.width)) ≤ a.width) && decide (a.width ≤ 1099511627776)) with
    | false => exact ⟨false, rfl, fun h => by cases h⟩
    | true =>
      have h7 : w (0 - (if c.width < b.width then c.width else b.width)) ≤ a.width ∧ a.width ≤ 1099511627776 := by simpa using h6
      have g : Good a b c := ⟨fun h => by omega, fun _ => ⟨eq_of_beq h3, eq_of_beq h4, h7⟩, fun h => by omega, fun h => by omega, fun h => by omega⟩
      exact ⟨_, rfl, fun _ => g⟩
  | false =>
  cases h3 : (a.kind == 3) with
  | true =>
    have e : a.kind = 3 := eq_of_beq h3
    cases h4 : (decide (1 ≤ a.size) && decide (a.size ≤ 67108864)) with
    | false => exact ⟨false, rfl, fun h => by cases h⟩
    | true =>
    cases h5 : (decide (0 ≤ a.width) && decide (a.width ≤ 67108864)) with
    | false => exact ⟨false, rfl, fun h => by cases h⟩
    | true =>
    cases h6 : (decide (0 ≤ a.stretch) && decide (a.stretch ≤ 67108864)) with
    | false => exact ⟨false, rfl, fun h => by cases h⟩
    | true =>
    cases h7 : (decide (0 ≤ a.shrink) && decide (a.shrink ≤ a.width)) with
    | false => exact ⟨false, rfl, fun h => by cases h⟩
    | true =>
      have h5' : 0 ≤ a.width ∧ a.width ≤ 67108864 := by simpa using h5
      have h6' : 0 ≤ a.stretch ∧ a.stretch ≤ 67108864 := by simpa using h6
      have h7' : 0 ≤ a.shrink ∧ a.shrink ≤ a.width := by simpa using h7
      have g : Good a b c := ⟨fun h => by omega, fun h => by omega, fun _ => ⟨h5', h6', h7'⟩, fun h => by omega, fun h => by omega⟩
      exact ⟨_, rfl, fun _ => g⟩
  | false =>
  cases h4 : (a.kind == 4) with
  | true =>
    have e : a.kind = 4 := eq_of_beq h4
    cases hv : (decide (-10000 ≤ a.value) && decide (a.value ≤ 10000)) with
    | false => cases hf : a.flag <;> exact ⟨false, rfl, fun h => by cases h⟩
    | true =>
    have hval : -10000 ≤ a.value := by have : -10000 ≤ a.value ∧ a.value ≤ 10000 := by simpa using hv
                                       exact this.1
    cases hf : a.flag with
    | false =>
      refine ⟨_, rfl, fun h => ?_⟩
      simp only [Bool.and_eq_true, beq_iff_eq] at h
      have hw : a.width = 0 := h.2.2.2.2.1
      exact ⟨fun h => by omega, fun h => by omega, fun h => by omega, fun _ => by omega, fun _ => hval⟩
    | true =>
    cases q with
    | false => exact ⟨false, rfl, fun h => by cases h⟩
    | true =>
      have := hq' rfl
      have g : Good a b c := ⟨fun h => by omega, fun h => by omega, fun h => by omega, fun _ => this, fun _ => hval⟩
      cases hr : (a.rune == 45) with
      | false => exact ⟨false, rfl, fun h => by cases h⟩
      | true =>
        cases decide (a.value > -10000) with
        | false => exact ⟨false, rfl, fun h => by cases h⟩
        | true => exact ⟨_, rfl, fun _ => g⟩
  | false => exact ⟨false, rfl, fun h => by cases h⟩

def prevOf (L : List GItem) (i : Nat) : GItem := if 0 < i then (L[i - 1]?).getD (GItem.mk 0 ByteArray.empty 0 0 0 0 0 0 0 0 false 0 0) else GItem.mk 0 ByteArray.empty 0 0 0 0 0 0 0 0 false 0 0
def nextOf (L : List GItem) (i : Nat) : GItem := (L[i + 1]?).getD (GItem.mk 0 ByteArray.empty 0 0 0 0 0 0 0 0 false 0 0)

theorem t64_l1 (k : Nat) (L : List GItem) (hl : L.length ≤ 4096) : ∀ (j : Nat) (v : Int) (i : Nat), i ≤ L.length → L.length < j + i →
    ∃ r, F5_l1 k L j v i = some r ∧ (r = .inl () → ∀ t y, i ≤ t → L[t]? = some y → Good y (prevOf L t) (nextOf L t))
  | 0, v, i, h1, h2 => by omega
  | j + 1, v, i, h1, h2 => by
    unfold F5_l1
    cases hc : decide ((i : Int) < (L.length : Int)) with
    | false =>
      have : ¬ (i : Int) < L.length := of_decide_eq_false hc
      refine ⟨.inl (), rfl, fun _ t y ht hy => ?_⟩
      have := lt_of_get hy
      omega
    | true =>
      have hi : (i : Int) < L.length := of_decide_eq_true hc
      obtain ⟨y, hy⟩ := at_of (L := L) (i := (i : Int)) (by omega) hi
      have hp : ∀ {β : Type} (f : Int × ByteArray × Int × Int × Int × Int × Int × Int × Int × Int × Bool × Int × Int → Option β), (Option.bind (bif decide ((i : Int) > 0) then (bindI L (w ((i : Int) - 1)) fun y22 => some (y22.kind, y22.font, y22.size, y22.rune, y22.width, y22.height, y22.depth, y22.stretch, y22.shrink, y22.value, y22.flag, y22.from_, y22.to_)) else (some (0, ByteArray.empty, 0, 0, 0, 0, 0, 0, 0, 0, false, 0, 0))) f) = 
          f ((prevOf L i).kind, (prevOf L i).font, (prevOf L i).size, (prevOf L i).rune, (prevOf L i).width, (prevOf L i).height, (prevOf L i).depth, (prevOf L i).stretch, (prevOf L i).shrink, (prevOf L i).value, (prevOf L i).flag, (prevOf L i).from_, (prevOf L i).to_) := by
        intro β f
        by_cases h0 : 0 < i
        · rw [decide_eq_true (show (i : Int) > 0 by omega), w_id (by omega) (by omega)]
          obtain ⟨z, hz⟩ := at_of (L := L) (i := (i : Int) - 1) (by omega) (by omega)
          rw [cond_true, bindI_eq (by omega) hz]
          have : (i : Int).toNat - 1 = i - 1 := by omega
          unfold prevOf
          rw [if_pos h0]
          rw [show ((i : Int) - 1).toNat = i - 1 by omega] at hz
          rw [hz]; rfl
        · rw [decide_eq_false (show ¬ (i : Int) > 0 by omega), cond_false]
          unfold prevOf
          rw [if_neg h0]; rfl
      have hn : ∀ {β : Type} (f : Int × ByteArray × Int × Int × Int × Int × Int × Int × Int × Int × Bool × Int × Int → Option β), (Option.bind (bif decide ((w ((i : Int) + 1)) < (L.length : Int)) then (bindI L (w ((i : Int) + 1)) fun y22 => some (y22.kind, y22.font, y22.size, y22.rune, y22.width, y22.height, y22.depth, y22.stretch, y22.shrink, y22.value, y22.flag, y22.from_, y22.to_)) else (some (0, ByteArray.empty, 0, 0, 0, 0, 0, 0, 0, 0, false, 0, 0))) f) = 
          f ((nextOf L i).kind, (nextOf L i).font, (nextOf L i).size, (nextOf L i).rune, (nextOf L i).width, (nextOf L i).height, (nextOf L i).depth, (nextOf L i).stretch, (nextOf L i).shrink, (nextOf L i).value, (nextOf L i).flag, (nextOf L i).from_, (nextOf L i).to_) := by
        intro β f
        rw [w_id (n := (i : Int) + 1) (by omega) (by omega)]
        by_cases h0 : i + 1 < L.length
        · rw [decide_eq_true (show (i : Int) + 1 < L.length by omega)]
          obtain ⟨z, hz⟩ := at_of (L := L) (i := (i : Int) + 1) (by omega) (by omega)
          rw [cond_true, bindI_eq (by omega) hz]
          unfold nextOf
          rw [show ((i : Int) + 1).toNat = i + 1 by omega] at hz
          rw [hz]; rfl
        · rw [decide_eq_false (show ¬ (i : Int) + 1 < L.length by omega), cond_false]
          unfold nextOf
          rw [List.getElem?_eq_none (by omega)]; rfl
      rw [cond_true, bindI_eq (by omega) hy]
      rw [show (i : Int).toNat = i by omega] at hy
      simp only [hp, hn]
      obtain ⟨r, hr, hg⟩ := t91 k y (prevOf L i) (nextOf L i)
      rw [hr]
      simp only [Option.bind_some]
      cases r with
      | false => exact ⟨.inr 1, rfl, fun h => by cases h⟩
      | true =>
        have g := hg rfl
        have step : ∀ v', ∃ r, F5_l1 k L j v' (w ((i : Int) + 1)) = some r ∧ (r = .inl () → ∀ t y, i ≤ t → L[t]? = some y → Good y (prevOf L t) (nextOf L t)) := by
          intro v'
          rw [w_id (n := (i : Int) + 1) (by omega) (by omega)]
          obtain ⟨r, h3, h4⟩ := t64_l1 k L hl j v' (i + 1) (by omega) (by omega)
          refine ⟨r, h3, fun e t z ht hz => ?_⟩
          by_cases hti : t = i
          · subst hti
            rw [hy] at hz; cases hz; exact g
          · exact h4 e t z (by omega) hz
        cases (y.kind == 2) with
        | true => exact step v
        | false =>
          simp only [t92]
          cases decide (y.from_ < v) with
          | true => exact ⟨.inr 1, rfl, fun h => by cases h⟩
          | false =>
            cases (decide (y.from_ ≤ y.to_) && decide (y.to_ ≤ 65536)) with
            | false => exact ⟨.inr 1, rfl, fun h => by cases h⟩
            | true => exact step y.to_

theorem t64_no (k : Nat) (L : List GItem) : ∀ (j : Nat) (v i : Int), F5_l1 k L j v i ≠ some (.inr 0)
  | 0, v, i => by unfold F5_l1; intro h; cases h
  | j + 1, v, i => by
    have ih := t64_no k L j
    unfold F5_l1
    intro h
    cases hc : decide (i < (L.length : Int)) with
    | false => rw [hc] at h; cases h
    | true =>
      rw [hc, cond_true] at h
      obtain ⟨x, hx, h⟩ := bind_some h
      cases x with
      | inl v' => exact ih _ _ h
      | inr q =>
        have hq : q = .inr 0 := by simpa using h
        subst hq
        obtain ⟨y, _, _, hx⟩ := bindI_some hx
        obtain ⟨p, _, hx⟩ := bind_some hx
        obtain ⟨n, _, hx⟩ := bind_some hx
        obtain ⟨p1, p2, p3, p4, p5, p6, p7, p8, p9, p10, p11, p12, p13⟩ := p
        obtain ⟨n1, n2, n3, n4, n5, n6, n7, n8, n9, n10, n11, n12, n13⟩ := n
        obtain ⟨r, _, hx⟩ := bind_some hx
        cases r with
        | false => cases hx
        | true =>
          simp only [Bool.not_true, cond_false] at hx
          cases hk : (y.kind == 2) with
          | true => rw [hk] at hx; cases hx
          | false =>
            rw [hk, cond_false] at hx
            obtain ⟨b, _, hx⟩ := bind_some hx
            cases b <;> cases hx

theorem t64 (k : Nat) (L : List GItem) (hk : L.length < k) : ∃ r, F5 k L = some r ∧ (r = 0 → L.length ≤ 4096 ∧ ∀ t y, L[t]? = some y → Good y (prevOf L t) (nextOf L t)) := by
  unfold F5
  cases hc : decide ((L.length : Int) > 4096) with
  | true => exact ⟨130, rfl, fun h => by omega⟩
  | false =>
    have hl : ¬ (L.length : Int) > 4096 := of_decide_eq_false hc
    obtain ⟨r, h1, h2⟩ := t64_l1 k L (by omega) k 0 0 (by omega) (by omega)
    rw [cond_false]
    have h1' : F5_l1 k L k 0 0 = some r := h1
    rw [h1', Option.bind_some]
    cases r with
    | inr n =>
      refine ⟨n, rfl, fun e => ?_⟩
      subst e
      exact (t64_no k L k 0 0 h1').elim
    | inl u =>
      have g := h2 rfl
      have good : L.length ≤ 4096 ∧ ∀ t y, L[t]? = some y → Good y (prevOf L t) (nextOf L t) := ⟨by omega, fun t y hy => g t y (by omega) hy⟩
      simp only [Sum.elim_inl]
      by_cases h0 : 0 < L.length
      · obtain ⟨y, hy⟩ := at_of (L := L) (i := (L.length : Int) - 1) (by omega) (by omega)
        rw [decide_eq_true (show (L.length : Int) > 0 by omega), cond_true, w_id (n := (L.length : Int) - 1) (by omega) (by omega), bindI_eq (by omega) hy, bindI_eq (by omega) hy]
        cases (y.kind != 4) with
        | true => exact ⟨1, rfl, fun h => by cases h⟩
        | false =>
          cases (y.value != (-10000)) with
          | true => exact ⟨1, rfl, fun h => by cases h⟩
          | false => exact ⟨0, rfl, fun _ => good⟩
      · rw [decide_eq_false (show ¬ (L.length : Int) > 0 by omega)]
        exact ⟨0, rfl, fun _ => good⟩

theorem bif_id (b : Bool) : (bif b then some true else some false) = some b := by cases b <;> rfl

theorem x104 (k : Nat) (x : GItem) : F27 k x = some ((decide (1 ≤ x.size) && decide (x.size ≤ 67108864)) && ((decide (0 ≤ x.width) && decide (x.width ≤ 1099511627776)) && ((decide (0 ≤ x.height) && decide (x.height ≤ 1099511627776)) && (decide (0 ≤ x.depth) && decide (x.depth ≤ 1099511627776))))) := by
  unfold F27
  simp only [t92, Option.bind_some]
  cases (decide (1 ≤ x.size) && decide (x.size ≤ 67108864)) <;> cases (decide (0 ≤ x.width) && decide (x.width ≤ 1099511627776)) <;> cases (decide (0 ≤ x.height) && decide (x.height ≤ 1099511627776)) <;> cases (decide (0 ≤ x.depth) && decide (x.depth ≤ 1099511627776)) <;> rfl

theorem x99 (k : Nat) (a : Int) : F30 k a = some (decide (1 ≤ a) && decide (a ≤ 67108864)) := by
  unfold F30
  have e : decide (a ≥ 1) = decide (1 ≤ a) := rfl
  rw [e]
  cases decide (1 ≤ a) <;> rfl
theorem x100 (k : Nat) (a : Int) : F31 k a = some (decide (0 ≤ a) && decide (a ≤ 1099511627776)) := by
  unfold F31
  have e : decide (a ≥ 0) = decide (0 ≤ a) := rfl
  rw [e]
  cases decide (0 ≤ a) <;> rfl

theorem wi32 {a : Int} (h : 0 ≤ a) (h' : a ≤ 1114111) : w_i32 a = a := by
  unfold w_i32
  rw [IntKind.wrap_i32]; omega

/-- a character's bytes: there are some, or none -/
theorem x105 (k : Nat) (a : Int) : ∃ u v, F28 k a = some u ∧ F29 k a = some v ∧ decide (u > 0) = decide (v > 0) := by
  unfold F28 F29
  by_cases h1 : a < 0
  · rw [decide_eq_true h1]; exact ⟨0, 0, rfl, rfl, rfl⟩
  rw [decide_eq_false h1]
  by_cases h2 : a > 1114111
  · rw [decide_eq_true h2]; exact ⟨0, 0, rfl, rfl, rfl⟩
  rw [decide_eq_false h2]
  have bytes : (¬ (a ≥ 55296 ∧ a ≤ 57343)) → ∃ u v : Int, (F38 k (w_i32 a)).bind (fun r14 => some r14) = some u ∧ (bif decide (a < 128) then (some (1 : Int)) else (bif decide (a < 2048) then (some 2) else (bif decide (a < 65536) then (some 3) else (some 4)))) = some v ∧ decide (u > 0) = decide (v > 0) := by
    intro hs
    rw [wi32 (by omega) (by omega)]
    unfold F38
    rw [decide_eq_false h1]
    by_cases q1 : a < 128
    · rw [decide_eq_true q1, decide_eq_true (show a ≤ 127 by omega)]; exact ⟨1, 1, rfl, rfl, rfl⟩
    rw [decide_eq_false q1, decide_eq_false (show ¬ a ≤ 127 by omega)]
    by_cases q2 : a < 2048
    · rw [decide_eq_true q2, decide_eq_true (show a ≤ 2047 by omega)]; exact ⟨2, 2, rfl, rfl, rfl⟩
    rw [decide_eq_false q2, decide_eq_false (show ¬ a ≤ 2047 by omega)]
    have q3 : (bif decide (55296 ≤ a) then (some (decide (a ≤ 57343))) else (some false)) = some false := by
      by_cases q : 55296 ≤ a
      · rw [decide_eq_true q, decide_eq_false (show ¬ a ≤ 57343 by omega)]; rfl
      · rw [decide_eq_false q]; rfl
    rw [q3]
    by_cases q4 : a < 65536
    · rw [decide_eq_true q4, decide_eq_true (show a ≤ 65535 by omega)]; exact ⟨3, 3, rfl, rfl, rfl⟩
    rw [decide_eq_false q4, decide_eq_false (show ¬ a ≤ 65535 by omega), decide_eq_true (show a ≤ 1114111 by omega)]
    exact ⟨4, 4, rfl, rfl, rfl⟩
  by_cases h3 : a ≥ 55296
  · rw [decide_eq_true h3]
    by_cases h4 : a ≤ 57343
    · rw [decide_eq_true h4]; exact ⟨0, 0, rfl, rfl, rfl⟩
    · rw [decide_eq_false h4]; exact bytes (by omega)
  · rw [decide_eq_false h3]; exact bytes (by omega)

theorem e81 (k : Nat) (a b c : GItem) (h2 : (a.kind == 2) = false) : F18 k a = F14 k a b c := by
  obtain ⟨u, v, hu, hv, huv⟩ := x105 k a.rune
  unfold F18 F14
  simp only [t92, x104, x99, x100, hu, hv, Option.bind_some, huv, h2, cond_false]
  cases h1 : (a.kind == 1) with
  | true =>
    simp only [cond_true, beq_self_eq_true, Bool.true_and, Bool.and_true, Option.bind_some]
    cases (decide (1 ≤ a.size) && decide (a.size ≤ 67108864)) <;> cases (decide (0 ≤ a.width) && decide (a.width ≤ 1099511627776)) <;> cases (decide (0 ≤ a.height) && decide (a.height ≤ 1099511627776)) <;> cases (decide (0 ≤ a.depth) && decide (a.depth ≤ 1099511627776)) <;> cases decide (v > 0) <;> simp [bif_id]
  | false =>
  cases h3 : (a.kind == 3) with
  | true =>
    simp only [cond_true, cond_false, beq_self_eq_true, Bool.true_and, Bool.and_true, Option.bind_some, ge_iff_le]
    cases (decide (1 ≤ a.size) && decide (a.size ≤ 67108864)) <;> cases decide (0 ≤ a.width) <;> cases decide (a.width ≤ 67108864) <;> cases decide (0 ≤ a.stretch) <;> cases decide (a.stretch ≤ 67108864) <;> cases decide (0 ≤ a.shrink) <;> cases decide (a.shrink ≤ a.width) <;> simp [bif_id]
  | false =>
  cases h4 : (a.kind == 4) with
  | true =>
    simp only [cond_true, cond_false, beq_self_eq_true, Bool.true_and, Bool.and_true, Option.bind_some]
    by_cases q1 : a.value < -10000
    · rw [decide_eq_true q1, decide_eq_false (show ¬ -10000 ≤ a.value by omega)]
      cases a.flag <;> simp [bif_id]
    · rw [decide_eq_false q1, decide_eq_true (show -10000 ≤ a.value by omega)]
      by_cases q2 : a.value > 10000
      · rw [decide_eq_true q2, decide_eq_false (show ¬ a.value ≤ 10000 by omega)]
        cases a.flag <;> simp [bif_id]
      · rw [decide_eq_false q2, decide_eq_true (show a.value ≤ 10000 by omega)]
        cases a.flag with
        | false => simp
        | true =>
          cases (decide (1 ≤ a.size) && decide (a.size ≤ 67108864)) <;> cases (decide (0 ≤ a.width) && decide (a.width ≤ 1099511627776)) <;> cases (decide (0 ≤ a.height) && decide (a.height ≤ 1099511627776)) <;> cases (decide (0 ≤ a.depth) && decide (a.depth ≤ 1099511627776)) <;> cases (a.rune == 45) <;> cases decide (a.value > -10000) <;> simp [bif_id]
  | false => rfl

theorem e80 (k : Nat) (L : List GItem) (i : Nat) (y : GItem) (hl : L.length ≤ 4096) (hy : L[i]? = some y) (h2 : (y.kind == 2) = true) : F17 k L i = F14 k y (prevOf L i) (nextOf L i) := by
  have hi := lt_of_get hy
  have hy' : L[(i : Int).toNat]? = some y := by rw [show (i : Int).toNat = i by omega]; exact hy
  have e : y.kind = 2 := eq_of_beq h2
  unfold F17 F14
  simp only [bindI_eq (by omega : 0 ≤ (i : Int)) hy', t92, h2, show (y.kind == 1) = false by rw [e]; rfl, show (y.kind == 3) = false by rw [e]; rfl, show (y.kind == 4) = false by rw [e]; rfl, cond_true, cond_false, Option.bind_some]
  rw [w_id (n := (i : Int) + 1) (by omega) (by omega)]
  by_cases h0 : i = 0
  · subst h0
    have : prevOf L 0 = GItem.mk 0 ByteArray.empty 0 0 0 0 0 0 0 0 false 0 0 := rfl
    rw [this]; rfl
  · have h0' : ((i : Int) == 0) = false := by rw [beq_eq_false_iff_ne]; omega
    rw [h0', w_id (n := (i : Int) - 1) (by omega) (by omega)]
    obtain ⟨p, hp⟩ := at_of (L := L) (i := (i : Int) - 1) (by omega) (by omega)
    have ep : prevOf L i = p := by
      unfold prevOf
      rw [if_pos (by omega)]
      rw [show ((i : Int) - 1).toNat = i - 1 by omega] at hp
      rw [hp]; rfl
    rw [ep]
    by_cases h1 : i + 1 < L.length
    · rw [decide_eq_false (show ¬ ((i : Int) + 1 ≥ L.length) by omega)]
      obtain ⟨n, hn⟩ := at_of (L := L) (i := (i : Int) + 1) (by omega) (by omega)
      have en : nextOf L i = n := by
        unfold nextOf
        rw [show ((i : Int) + 1).toNat = i + 1 by omega] at hn
        rw [hn]; rfl
      rw [en]
      simp only [bindI_eq (by omega : 0 ≤ (i : Int) - 1) hp, bindI_eq (by omega : 0 ≤ (i : Int) + 1) hn, cond_false, Option.bind_some, e]
      cases hk1 : (p.kind == 1) with
      | false => simp [bne, hk1]
      | true =>
        cases hk2 : (n.kind == 1) with
        | false => simp [bne, hk1, hk2]
        | true =>
          simp only [bne, hk1, hk2, Bool.not_true, cond_true, cond_false, Option.bind_some, ge_iff_le]
          cases (y.width == 0) <;> cases decide (y.width ≤ 1099511627776) <;> cases decide (w (0 - if n.width < p.width then n.width else p.width) ≤ y.width) <;> simp [bif_id]
    · rw [decide_eq_true (show ((i : Int) + 1 ≥ L.length) by omega)]
      have en : nextOf L i = GItem.mk 0 ByteArray.empty 0 0 0 0 0 0 0 0 false 0 0 := by
        unfold nextOf
        rw [List.getElem?_eq_none (by omega)]; rfl
      rw [en]
      cases (p.kind == 1) <;> rfl

theorem hprev (L : List GItem) (i : Nat) (hi : i < L.length) (hl : L.length ≤ 4096) {β : Type} (f : Int × ByteArray × Int × Int × Int × Int × Int × Int × Int × Int × Bool × Int × Int → Option β) : (Option.bind (bif decide ((i : Int) > 0) then (bindI L (w ((i : Int) - 1)) fun y22 => some (y22.kind, y22.font, y22.size, y22.rune, y22.width, y22.height, y22.depth, y22.stretch, y22.shrink, y22.value, y22.flag, y22.from_, y22.to_)) else (some (0, ByteArray.empty, 0, 0, 0, 0, 0, 0, 0, 0, false, 0, 0))) f) =
    f ((prevOf L i).kind, (prevOf L i).font, (prevOf L i).size, (prevOf L i).rune, (prevOf L i).width, (prevOf L i).height, (prevOf L i).depth, (prevOf L i).stretch, (prevOf L i).shrink, (prevOf L i).value, (prevOf L i).flag, (prevOf L i).from_, (prevOf L i).to_) := by
  by_cases h0 : 0 < i
  · rw [decide_eq_true (show (i : Int) > 0 by omega), w_id (by omega) (by omega)]
    obtain ⟨z, hz⟩ := at_of (L := L) (i := (i : Int) - 1) (by omega) (by omega)
    rw [cond_true, bindI_eq (by omega) hz]
    unfold prevOf
    rw [if_pos h0]
    rw [show ((i : Int) - 1).toNat = i - 1 by omega] at hz
    rw [hz]; rfl
  · rw [decide_eq_false (show ¬ (i : Int) > 0 by omega), cond_false]
    unfold prevOf
    rw [if_neg h0]; rfl

theorem hnext (L : List GItem) (i : Nat) (hi : i < L.length) (hl : L.length ≤ 4096) {β : Type} (f : Int × ByteArray × Int × Int × Int × Int × Int × Int × Int × Int × Bool × Int × Int → Option β) : (Option.bind (bif decide ((w ((i : Int) + 1)) < (L.length : Int)) then (bindI L (w ((i : Int) + 1)) fun y22 => some (y22.kind, y22.font, y22.size, y22.rune, y22.width, y22.height, y22.depth, y22.stretch, y22.shrink, y22.value, y22.flag, y22.from_, y22.to_)) else (some (0, ByteArray.empty, 0, 0, 0, 0, 0, 0, 0, 0, false, 0, 0))) f) =
    f ((nextOf L i).kind, (nextOf L i).font, (nextOf L i).size, (nextOf L i).rune, (nextOf L i).width, (nextOf L i).height, (nextOf L i).depth, (nextOf L i).stretch, (nextOf L i).shrink, (nextOf L i).value, (nextOf L i).flag, (nextOf L i).from_, (nextOf L i).to_) := by
  rw [w_id (n := (i : Int) + 1) (by omega) (by omega)]
  by_cases h0 : i + 1 < L.length
  · rw [decide_eq_true (show (i : Int) + 1 < L.length by omega)]
    obtain ⟨z, hz⟩ := at_of (L := L) (i := (i : Int) + 1) (by omega) (by omega)
    rw [cond_true, bindI_eq (by omega) hz]
    unfold nextOf
    rw [show ((i : Int) + 1).toNat = i + 1 by omega] at hz
    rw [hz]; rfl
  · rw [decide_eq_false (show ¬ (i : Int) + 1 < L.length by omega), cond_false]
    unfold nextOf
    rw [List.getElem?_eq_none (by omega)]; rfl

theorem e64_l1 (k : Nat) (L : List GItem) (hl : L.length ≤ 4096) : ∀ (j : Nat) (v : Int) (i : Nat), i ≤ L.length → F6_l1 k L j v i = F5_l1 k L j v i
  | 0, v, i, h1 => rfl
  | j + 1, v, i, h1 => by
    unfold F6_l1 F5_l1
    by_cases hi : (i : Int) < L.length
    · rw [decide_eq_true hi]
      obtain ⟨y, hy⟩ := at_of (L := L) (i := (i : Int)) (by omega) hi
      have hb := fun {β : Type} (f : GItem → Option β) => bindI_eq (f := f) (by omega : 0 ≤ (i : Int)) hy
      have hy' : L[i]? = some y := by rw [show (i : Int).toNat = i by omega] at hy; exact hy
      have ih : ∀ v', F6_l1 k L j v' (w ((i : Int) + 1)) = F5_l1 k L j v' (w ((i : Int) + 1)) := by
        intro v'
        rw [w_id (n := (i : Int) + 1) (by omega) (by omega)]
        exact e64_l1 k L hl j v' (i + 1) (by omega)
      rw [cond_true, cond_true]
      simp only [hb, ih, hprev L i (by omega) hl, hnext L i (by omega) hl]
      obtain ⟨r, hr, _⟩ := t91 k y (prevOf L i) (nextOf L i)
      cases h2 : (y.kind == 2) with
      | true =>
        rw [e80 k L i y hl hy' h2, hr]
        simp only [Option.bind_some, cond_true]
      | false =>
        rw [e81 k y (prevOf L i) (nextOf L i) h2, hr]
        simp only [Option.bind_some, cond_false, t92]
        cases r with
        | false => rfl
        | true =>
          simp only [Bool.not_true, cond_false, Option.bind_some]
          cases decide (y.from_ < v) with
          | true => rfl
          | false =>
            simp only [cond_false, Option.bind_some]
            by_cases q1 : y.to_ < y.from_
            · rw [decide_eq_true q1, decide_eq_false (show ¬ y.from_ ≤ y.to_ by omega)]; rfl
            · rw [decide_eq_false q1, decide_eq_true (show y.from_ ≤ y.to_ by omega)]
              by_cases q2 : y.to_ > 65536
              · rw [decide_eq_true q2, decide_eq_false (show ¬ y.to_ ≤ 65536 by omega)]; rfl
              · rw [decide_eq_false q2, decide_eq_true (show y.to_ ≤ 65536 by omega)]; rfl
    · rw [decide_eq_false hi]; rfl

theorem x79 (k : Nat) (y : GItem) : F16 k y = some (y.kind == 4 && decide (y.value ≤ -10000)) := by
  unfold F16
  cases (y.kind == 4) <;> rfl


theorem t64_one (k : Nat) (L : List GItem) : ∀ (j : Nat) (v i n : Int), F5_l1 k L j v i = some (.inr n) → n = 1
  | 0, v, i, n, h => by unfold F5_l1 at h; cases h
  | j + 1, v, i, n, h => by
    have ih := t64_one k L j
    unfold F5_l1 at h
    cases hc : decide (i < (L.length : Int)) with
    | false => rw [hc] at h; cases h
    | true =>
      rw [hc, cond_true] at h
      obtain ⟨x, hx, h⟩ := bind_some h
      cases x with
      | inl v' => exact ih _ _ _ h
      | inr q =>
        have hq : q = .inr n := by simpa using h
        subst hq
        obtain ⟨y, _, _, hx⟩ := bindI_some hx
        obtain ⟨p, _, hx⟩ := bind_some hx
        obtain ⟨m, _, hx⟩ := bind_some hx
        obtain ⟨p1, p2, p3, p4, p5, p6, p7, p8, p9, p10, p11, p12, p13⟩ := p
        obtain ⟨n1, n2, n3, n4, n5, n6, n7, n8, n9, n10, n11, n12, n13⟩ := m
        obtain ⟨r, _, hx⟩ := bind_some hx
        cases r with
        | false =>
          simp only [Bool.not_false, cond_true, Option.some.injEq, Sum.inr.injEq] at hx
          exact hx.symm
        | true =>
          simp only [Bool.not_true, cond_false] at hx
          cases hk : (y.kind == 2) with
          | true => rw [hk] at hx; cases hx
          | false =>
            rw [hk, cond_false] at hx
            obtain ⟨b, _, hx⟩ := bind_some hx
            cases b with
            | false => cases hx
            | true =>
              simp only [cond_true, Option.some.injEq, Sum.inr.injEq] at hx
              exact hx.symm

/-- **The document's check is the program's.** -/
theorem e43 (k : Nat) (L : List GItem) (hk : L.length < k) : ∃ r, F5 k L = some r ∧ F6 k L = some r := by
  unfold F5 F6
  cases hc : decide ((L.length : Int) > 4096) with
  | true => exact ⟨130, rfl, rfl⟩
  | false =>
    have hl : ¬ (L.length : Int) > 4096 := of_decide_eq_false hc
    obtain ⟨q, h1, h2⟩ := t64_l1 k L (by omega) k 0 0 (by omega) (by omega)
    have h1' : F5_l1 k L k 0 0 = some q := h1
    have h3' : F6_l1 k L k 0 0 = some q := (e64_l1 k L (by omega) k 0 0 (by omega)).trans h1
    rw [cond_false, cond_false, h1', h3']
    by_cases h0 : 0 < L.length
    · obtain ⟨y, hy⟩ := at_of (L := L) (i := (L.length : Int) - 1) (by omega) (by omega)
      have hb := fun {β : Type} (f : GItem → Option β) => bindI_eq (f := f) (by omega : 0 ≤ (L.length : Int) - 1) hy
      rw [decide_eq_true (show (L.length : Int) > 0 by omega), w_id (n := (L.length : Int) - 1) (by omega) (by omega)]
      simp only [hb, x79, cond_true, Option.bind_some]
      cases q with
      | inr n =>
        have hn : n = 1 := t64_one k L k 0 0 n h1'
        subst hn
        cases (!(y.kind == 4 && decide (y.value ≤ -10000))) with
        | true => exact ⟨1, rfl, rfl⟩
        | false => exact ⟨1, rfl, rfl⟩
      | inl u =>
        have g := (h2 rfl) _ y (Nat.zero_le _) hy
        cases q4 : (y.kind == 4) with
        | false => exact ⟨1, by simp [bne, q4], by simp⟩
        | true =>
          have hv := g.val (eq_of_beq q4)
          by_cases q5 : y.value = -10000
          · exact ⟨0, by simp [bne, q4, q5], by simp [q5]⟩
          · have q5' : (y.value == -10000) = false := by rw [beq_eq_false_iff_ne]; exact q5
            exact ⟨1, by simp [bne, q4, q5'], by rw [decide_eq_false (show ¬ y.value ≤ -10000 by omega)]; rfl⟩
    · rw [decide_eq_false (show ¬ (L.length : Int) > 0 by omega)]
      cases q with
      | inr n =>
        have hn : n = 1 := t64_one k L k 0 0 n h1'
        subst hn
        exact ⟨1, rfl, rfl⟩
      | inl u => exact ⟨0, rfl, rfl⟩

theorem bytes_self (x : ByteArray) : (x == x) = true := by
  obtain ⟨d⟩ := x; exact beq_self_eq_true d

theorem bindA_eq {α β : Type} {n : Nat} {L M : List α} {f : List α → Option β} (h : (5 * (L.length + M.length) + 768) * n ≤ 1125899906842624) : bindA n L M f = f (L ++ M) := if_pos h

def mark : GItem := GItem.mk (-7) ByteArray.empty 0 0 0 0 0 0 0 0 false 0 0

theorem t49_l1 (k : Nat) (L : List GItem) (hl : (L.length : Int) < 9223372036854775807) : ∀ (j i : Nat), i ≤ L.length → L.length < j + i → F7_l1 k L L j i = some (.inl ())
  | 0, i, h1, h2 => by omega
  | j + 1, i, h1, h2 => by
    unfold F7_l1
    by_cases hi : (i : Int) < L.length
    · rw [decide_eq_true hi]
      obtain ⟨y, hy⟩ := at_of (L := L) (i := (i : Int)) (by omega) hi
      rw [cond_true, bindI_eq (by omega) hy, bindI_eq (by omega) hy, w_id (n := (i : Int) + 1) (by omega) (by omega)]
      have := t49_l1 k L hl j (i + 1) (by omega) (by omega)
      simp only [beq_self_eq_true, bytes_self, Bool.and_self, Bool.not_true, cond_false]
      exact this
    · rw [decide_eq_false hi]; rfl

/-- **What ItemsChecks computes is true.** -/
theorem t10 (L : List GItem) (hl : L.length * 112 ≤ 140737488355328) : F3 (L.length + 4) L = some true := by
  generalize hk : L.length + 4 = k
  unfold F3
  have ht : (((L ++ [mark]).take (L.length : Int).toNat).drop (0 : Int).toNat) = L := by simp
  have hs : ∀ {β : Type} (f : List GItem → Option β), bindS (L ++ [mark]) 0 (L.length : Int) f = f L := by
    intro β f
    unfold bindS
    rw [if_pos ⟨by omega, by omega, by simp; omega⟩, ht]
  rw [bindA_eq (by simp; omega), List.nil_append, bindA_eq (by simp; omega)]
  obtain ⟨r, r1, r2⟩ := e43 k L (by omega)
  have h2 : (L ++ [mark])[(L.length : Int).toNat]? = some mark := by simp
  have step : ∀ (j : Nat) (v : Int), v < 2 → F3_l1 k L (L ++ [mark]) (j + 1) v = F3_l1 k L (L ++ [mark]) j (w (v + 1)) := by
    intro j v hv
    conv => lhs; unfold F3_l1
    rw [decide_eq_true hv, cond_true, hs, r1, r2, Option.bind_some, Option.bind_some, bne_self_eq_false, cond_false]
  have hloop : F3_l1 k L (L ++ [mark]) k 0 = some (.inl ()) := by
    obtain ⟨j, rfl⟩ : ∃ j, k = j + 3 := ⟨k - 3, by omega⟩
    rw [step (j + 2) 0 (by decide), w_id (by decide) (by decide), step (j + 1) _ (by decide), w_id (by decide) (by decide)]
    unfold F3_l1
    rfl
  have hloop' : F3_l1 k L (L ++ [GItem.mk (-7) ByteArray.empty 0 0 0 0 0 0 0 0 false 0 0]) k 0 = some (.inl ()) := hloop
  rw [hloop', Option.bind_some]
  simp only [Sum.elim_inl]
  have h49 : F7 k L L = some true := by
    unfold F7
    have := t49_l1 k L (by omega) k 0 (by omega) (by omega)
    have h0 : F7_l1 k L L k 0 = some (.inl ()) := this
    rw [bne_self_eq_false, cond_false, h0]
    rfl
  have hs' : ∀ {β : Type} (f : List GItem → Option β), bindS (L ++ [GItem.mk (-7) ByteArray.empty 0 0 0 0 0 0 0 0 false 0 0]) 0 (L.length : Int) f = f L := hs
  have h2' : (L ++ [GItem.mk (-7) ByteArray.empty 0 0 0 0 0 0 0 0 false 0 0])[(L.length : Int).toNat]? = some mark := h2
  rw [hs', h49, Option.bind_some, cond_true, bindI_eq (by omega) h2']
  rfl

end
end Go.Eng.Lift
