/-
  Layer 14: LineTells, the plain law: what is computed answers true.
-/
import Derived.Test.YtjobmgleekphjaaP9c
set_option linter.unusedVariables false
set_option linter.unusedSimpArgs false
namespace Go.Eng.Lift
open Go.Proofs
noncomputable section

theorem hprev (L : List GItem) (i : Nat) (hi : i < L.length) (hl : L.length ≤ 4096) {β : Type} (f : Int × ByteArray × Int × Int × Int × Int × Int × Int × Int × Int × Bool × Int × Int → Option β) : (Option.bind (bif decide ((i : Int) > 0) then (bindI L (w ((i : Int) - 1)) fun y22 => some (y22.kind, y22.font, y22.size, y22.rune, y22.width, y22.height, y22.depth, y22.stretch, y22.shrink, y22.value, y22.flag, y22.from_, y22.to_)) else (some (0, ByteArray.empty, 0, 0, 0, 0, 0, 0, 0, 0, false, 0, 0))) f) =
    f ((prevOf L i).kind, (prevOf L i).font, (prevOf L i).size, (prevOf L i).rune, (prevOf L i).width, (prevOf L i).height, (prevOf L i).depth, (prevOf L i).stretch, (prevOf L i).shrink, (prevOf L i).value, (prevOf L i).flag, (prevOf L i).from_, (prevOf L i).to_) := by
  by_cases h0 : 0 < i
  · rw [decide_eq_true (show (i : Int) > 0 by omega), w_id (by omega) (by omega)]
    obtain ⟨z, hz⟩ := at_of (L := L) (i := (i : Int) - 1) (by omega) (by omega)
    rw [cond_true, bindI_eq (by omega) hz]
    unfold prevOf
    rw [if_pos h0]
    rw [show ((i : Int) - 1).toNat = i - 1 by omega] at hz
    rw [hz]; rfl
  · rw [decide_eq_false (show ¬ (i : Int) > 0 by omega), cond_false]
    unfold prevOf
    rw [if_neg h0]; rfl

theorem hnext (L : List GItem) (i : Nat) (hi : i < L.length) (hl : L.length ≤ 4096) {β : Type} (f : Int × ByteArray × Int × Int × Int × Int × Int × Int × Int × Int × Bool × Int × Int → Option β) : (Option.bind (bif decide ((w ((i : Int) + 1)) < (L.length : Int)) then (bindI L (w ((i : Int) + 1)) fun y22 => some (y22.kind, y22.font, y22.size, y22.rune, y22.width, y22.height, y22.depth, y22.stretch, y22.shrink, y22.value, y22.flag, y22.from_, y22.to_)) else (some (0, ByteArray.empty, 0, 0, 0, 0, 0, 0, 0, 0, false, 0, 0))) f) =
    f ((nextOf L i).kind, (nextOf L i).font, (nextOf L i).size, (nextOf L i).rune, (nextOf L i).width, (nextOf L i).height, (nextOf L i).depth, (nextOf L i).stretch, (nextOf L i).shrink, (nextOf L i).value, (nextOf L i).flag, (nextOf L i).from_, (nextOf L i).to_) := by
  rw [w_id (n := (i : Int) + 1) (by omega) (by omega)]
  by_cases h0 : i + 1 < L.length
  · rw [decide_eq_true (show (i : Int) + 1 < L.length by omega)]
    obtain ⟨z, hz⟩ := at_of (L := L) (i := (i : Int) + 1) (by omega) (by omega)
    rw [cond_true, bindI_eq (by omega) hz]
    unfold nextOf
    rw [show ((i : Int) + 1).toNat = i + 1 by omega] at hz
    rw [hz]; rfl
  · rw [decide_eq_false (show ¬ (i : Int) + 1 < L.length by omega), cond_false]
    unfold nextOf
    rw [List.getElem?_eq_none (by omega)]; rfl

theorem e64_l1 (k : Nat) (L : List GItem) (hl : L.length ≤ 4096) : ∀ (j : Nat) (v : Int) (i : Nat), i ≤ L.length → F40_l1 k L j v i = F64_l1 k L j v i
  | 0, v, i, h1 => rfl
  | j + 1, v, i, h1 => by
    unfold F40_l1 F64_l1
    by_cases hi : (i : Int) < L.length
    · rw [decide_eq_true hi]
      obtain ⟨y, hy⟩ := at_of (L := L) (i := (i : Int)) (by omega) hi
      have hb := fun {β : Type} (f : GItem → Option β) => bindI_eq (f := f) (by omega : 0 ≤ (i : Int)) hy
      have hy' : L[i]? = some y := by rw [show (i : Int).toNat = i by omega] at hy; exact hy
      have ih : ∀ v', F40_l1 k L j v' (w ((i : Int) + 1)) = F64_l1 k L j v' (w ((i : Int) + 1)) := by
        intro v'
        rw [w_id (n := (i : Int) + 1) (by omega) (by omega)]
        exact e64_l1 k L hl j v' (i + 1) (by omega)
      rw [cond_true, cond_true]
      simp only [hb, ih, hprev L i (by omega) hl, hnext L i (by omega) hl]
      obtain ⟨r, hr, _⟩ := t91 k y (prevOf L i) (nextOf L i)
      cases h2 : (y.kind == 2) with
      | true =>
        rw [e80 k L i y hl hy' h2, hr]
        simp only [Option.bind_some, cond_true]
      | false =>
        rw [e81 k y (prevOf L i) (nextOf L i) h2, hr]
        simp only [Option.bind_some, cond_false, t92]
        cases r with
        | false => rfl
        | true =>
          simp only [Bool.not_true, cond_false, Option.bind_some]
          cases decide (y.from_ < v) with
          | true => rfl
          | false =>
            simp only [cond_false, Option.bind_some]
            by_cases q1 : y.to_ < y.from_
            · rw [decide_eq_true q1, decide_eq_false (show ¬ y.from_ ≤ y.to_ by omega)]; rfl
            · rw [decide_eq_false q1, decide_eq_true (show y.from_ ≤ y.to_ by omega)]
              by_cases q2 : y.to_ > 65536
              · rw [decide_eq_true q2, decide_eq_false (show ¬ y.to_ ≤ 65536 by omega)]; rfl
              · rw [decide_eq_false q2, decide_eq_true (show y.to_ ≤ 65536 by omega)]; rfl
    · rw [decide_eq_false hi]; rfl

theorem x79 (k : Nat) (y : GItem) : F79 k y = some (y.kind == 4 && decide (y.value ≤ -10000)) := by
  unfold F79
  cases (y.kind == 4) <;> rfl

theorem e64 (k : Nat) (L : List GItem) (hk : L.length < k) : ∃ r s, F64 k L = some r ∧ F40 k L = some s ∧ (r != 0) = (s != 0) := by
  unfold F64 F40
  cases hc : decide ((L.length : Int) > 4096) with
  | true => exact ⟨130, 130, rfl, rfl, rfl⟩
  | false =>
    have hl : ¬ (L.length : Int) > 4096 := of_decide_eq_false hc
    obtain ⟨q, h1, h2⟩ := t64_l1 k L (by omega) k 0 0 (by omega) (by omega)
    have h1' : F64_l1 k L k 0 0 = some q := h1
    have h3' : F40_l1 k L k 0 0 = some q := (e64_l1 k L (by omega) k 0 0 (by omega)).trans h1
    rw [cond_false, cond_false, h1', h3']
    by_cases h0 : 0 < L.length
    · obtain ⟨y, hy⟩ := at_of (L := L) (i := (L.length : Int) - 1) (by omega) (by omega)
      have hb := fun {β : Type} (f : GItem → Option β) => bindI_eq (f := f) (by omega : 0 ≤ (L.length : Int) - 1) hy
      rw [decide_eq_true (show (L.length : Int) > 0 by omega), w_id (n := (L.length : Int) - 1) (by omega) (by omega)]
      simp only [hb, x79, cond_true, Option.bind_some]
      cases q with
      | inr n =>
        have hn : (n != 0) = true := by
          rw [bne_iff_ne]
          intro e
          subst e
          exact t64_no k L k 0 0 h1'
        cases (!(y.kind == 4 && decide (y.value ≤ -10000))) with
        | true => exact ⟨n, 1, rfl, rfl, hn⟩
        | false => exact ⟨n, n, rfl, rfl, rfl⟩
      | inl u =>
        have g := (h2 rfl) _ y (Nat.zero_le _) hy
        cases q4 : (y.kind == 4) with
        | false => exact ⟨1, 1, by simp [bne, q4], by simp, rfl⟩
        | true =>
          have hv := g.val (eq_of_beq q4)
          by_cases q5 : y.value = -10000
          · exact ⟨0, 0, by simp [bne, q4, q5], by simp [q5], rfl⟩
          · have q5' : (y.value == -10000) = false := by rw [beq_eq_false_iff_ne]; exact q5
            exact ⟨1, 1, by simp [bne, q4, q5'], by rw [decide_eq_false (show ¬ y.value ≤ -10000 by omega)]; rfl, rfl⟩
    · rw [decide_eq_false (show ¬ (L.length : Int) > 0 by omega)]
      cases q with
      | inr n => exact ⟨n, n, rfl, rfl, rfl⟩
      | inl u => exact ⟨0, 0, rfl, rfl, rfl⟩

theorem x72 (k : Nat) (a : Int) : F72 k a = some (decide (1 ≤ a) && decide (a ≤ 536870912)) := by
  unfold F72
  have e : decide (a ≥ 1) = decide (1 ≤ a) := rfl
  rw [e]
  cases decide (1 ≤ a) <;> rfl

/-- **The document's line is the program's.** -/
theorem e34 (k : Nat) (L : List GItem) (a1 a2 a3 : Int) (hk : L.length < k) : F35 k L a1 a2 a3 = F34 k L a1 a2 a3 := by
  obtain ⟨r, hr, hg⟩ := t64 k L hk
  obtain ⟨r', s, hr', hs, hrs⟩ := e64 k L hk
  rw [hr] at hr'
  cases hr'
  unfold F34 F35
  rw [hr, hs, Option.bind_some, Option.bind_some]
  by_cases h0 : r = 0
  · obtain ⟨hl, g⟩ := hg h0
    have hf : ∀ (t : Nat) (y : GItem), L[t]? = some y → Fine y := fun t y hy => fine_of g hy
    have h0' : (r != 0) = false := by rw [h0]; rfl
    rw [h0'] at hrs
    rw [h0', ← hrs]
    simp only [x72, cond_false, Option.bind_some]
    by_cases h1 : a1 < 1
    · rw [decide_eq_true h1, decide_eq_false (show ¬ 1 ≤ a1 by omega)]; rfl
    rw [decide_eq_false h1, decide_eq_true (show 1 ≤ a1 by omega)]
    by_cases h2 : a1 > 536870912
    · rw [decide_eq_true h2, decide_eq_false (show ¬ a1 ≤ 536870912 by omega)]; rfl
    rw [decide_eq_false h2, decide_eq_true (show a1 ≤ 536870912 by omega)]
    unfold F73
    by_cases h3 : a2 < -1
    · rw [decide_eq_true h3]; rfl
    rw [decide_eq_false h3]
    by_cases h4 : a2 ≥ a3
    · rw [decide_eq_true h4]; rfl
    rw [decide_eq_false h4]
    by_cases h5 : a3 ≥ L.length
    · rw [decide_eq_true h5]; rfl
    rw [decide_eq_false h5]
    obtain ⟨b, hb⟩ := t68 k L a3 (by omega) (by omega) hl
    rw [e68, e68, hb]
    rw [e74 k L a1 a2 a3 hl hk hf (by omega) (by omega) (by omega) (by omega) (by omega)]
    have e9 := e94 k L (a2 + 1) a3 hl hf (by omega) (by omega) (by omega) k 0 (by omega) (by omega)
    rw [show a2 + 1 + ((0 : Nat) : Int) = a2 + 1 by omega] at e9
    have fin : ∀ (E : Option (GLine × Int)) (G : Option (GLine × Int)), (Option.bind (α := Bool) (Option.bind (α := (Unit) ⊕ (Bool)) (F73_l1 k L a3 k (w (a2 + 1))) (Sum.elim (fun (_ : Unit) => some true) some)) fun r11 => (bif !r11 then E else G)) =
        (bindS L (w (a2 + 1)) a3 fun l9 => (F69_70 k l9).bind fun r43 => bif r43 then E else G) := by
      intro E G
      rw [w_id (by omega) (by omega)]
      unfold bindS F69_70 F94_70
      rw [if_pos ⟨by omega, by omega, by omega⟩]
      rcases e9 with ⟨p1, p2⟩ | ⟨p1, n, p3, p2⟩
      · have p2' : F94_70_l1 k ((L.take a3.toNat).drop (a2 + 1).toNat) k 0 = some (.inl ()) := p2
        dsimp only
        rw [p1, p2']; rfl
      · have p2' : F94_70_l1 k ((L.take a3.toNat).drop (a2 + 1).toNat) k 0 = some (.inr n) := p2
        dsimp only
        rw [p1, p2']
        show E = Option.bind (some (decide (n ≥ 0))) fun r43 => bif r43 then E else G
        rw [decide_eq_true p3]; rfl
    cases b with
    | false =>
      by_cases h6 : a2 ≥ 0
      · rw [decide_eq_true h6]
        obtain ⟨c, hc⟩ := t68 k L a2 (by omega) (by omega) hl
        rw [hc]
        cases c <;> rfl
      · rw [decide_eq_false h6]; rfl
    | true =>
      by_cases h6 : a2 ≥ 0
      · rw [decide_eq_true h6]
        obtain ⟨c, hc⟩ := t68 k L a2 (by omega) (by omega) hl
        rw [hc]
        cases c with
        | false => rfl
        | true =>
          have := fin (some ((GLine.mk 0 0 0 0 0 0 0 0 0 false false false 0 0), 1)) ((F71 k L a1 a2 a3).bind fun r46 => some (r46, 0))
          rw [← this, w_id (n := a2 + 1) (by omega) (by omega)]
          rcases e9 with ⟨p1, _⟩ | ⟨p1, _⟩ <;> rw [p1] <;> rfl
      · rw [decide_eq_false h6]
        have := fin (some ((GLine.mk 0 0 0 0 0 0 0 0 0 false false false 0 0), 1)) ((F71 k L a1 a2 a3).bind fun r46 => some (r46, 0))
        rw [← this, w_id (n := a2 + 1) (by omega) (by omega)]
        rcases e9 with ⟨p1, _⟩ | ⟨p1, _⟩ <;> rw [p1] <;> rfl
  · have h0' : (r != 0) = true := by rw [bne_iff_ne]; exact h0
    rw [h0'] at hrs
    rw [h0', ← hrs]
    rfl


theorem bytes_self (x : ByteArray) : (x == x) = true := by
  first | exact beq_self_eq_true x | (obtain ⟨d⟩ := x; exact beq_self_eq_true d) | (show decide (x = x) = true; simp) | (cases x; simp [BEq.beq])

def mark : GItem := GItem.mk (-77) ByteArray.empty 0 0 0 0 0 0 0 0 false 0 0

theorem t29 (k : Nat) (L : List GItem) (hl : L.length ≤ 2147483647) : F29 k L = some (L ++ [mark]) := by
  unfold F29 bindA
  rw [if_pos (by simp; omega)]
  dsimp only
  rw [if_pos (by simp; omega)]
  rfl

theorem line_self (x : GLine) : (x.first == x.first && (x.last == x.last && (x.break_ == x.break_ && (x.natural == x.natural && (x.stretch == x.stretch && (x.shrink == x.shrink && (x.short == x.short && (x.bad == x.bad && (x.class_ == x.class_ && (x.over_ == x.over_ && (x.hyphen == x.hyphen && (x.end_ == x.end_ && (x.height == x.height && (x.depth == x.depth && true)))))))))))))) = true := by
  simp only [beq_self_eq_true, Bool.and_self]

theorem t9_l1 (k : Nat) (L : List GItem) (A : List GAsk) (hk : L.length < k) : ∀ (j i : Nat), i ≤ 60 → 60 < j + i → F9_l1 k L A (L ++ [mark]) j i = some (.inl ())
  | 0, i, h1, h2 => by omega
  | j + 1, i, h1, h2 => by
    unfold F9_l1
    by_cases hi : (i : Int) < A.length
    · rw [decide_eq_true hi]
      by_cases h6 : (i : Int) < 60
      · rw [decide_eq_true h6]
        obtain ⟨y, hy⟩ := at_of (L := A) (i := (i : Int)) (by omega) hi
        obtain ⟨r, hr, _⟩ := t34 k L y.width y.from_ y.to_ hk
        have hr' := (e34 k L y.width y.from_ y.to_ hk).trans hr
        have ht : (((L ++ [mark]).take (L.length : Int).toNat).drop (0 : Int).toNat) = L := by simp
        simp only [cond_true, Option.bind_some]
        rw [bindI_eq (by omega) hy]
        unfold bindS
        rw [if_pos ⟨by omega, by omega, by simp; omega⟩]
        dsimp only
        rw [ht, hr, hr', Option.bind_some, Option.bind_some, line_self, w_id (n := (i : Int) + 1) (by omega) (by omega)]
        have := t9_l1 k L A hk j (i + 1) (by omega) (by omega)
        simp only [Bool.not_true, cond_false, Option.bind_some, bne_self_eq_false]
        exact this
      · rw [decide_eq_false h6]; rfl
    · rw [decide_eq_false hi]; rfl

theorem t32_l1 (k : Nat) (L : List GItem) (hl : L.length ≤ 2147483647) : ∀ (j i : Nat), i ≤ L.length → L.length < j + i → F32_l1 k (L ++ [mark]) L j i = some (.inl ())
  | 0, i, h1, h2 => by omega
  | j + 1, i, h1, h2 => by
    unfold F32_l1
    by_cases hi : (i : Int) < L.length
    · rw [decide_eq_true hi]
      obtain ⟨y, hy⟩ := at_of (L := L) (i := (i : Int)) (by omega) hi
      have hy' : (L ++ [mark])[(i : Int).toNat]? = some y := by rw [List.getElem?_append_left (by omega)]; exact hy
      rw [cond_true, bindI_eq (by omega) hy', bindI_eq (by omega) hy, w_id (n := (i : Int) + 1) (by omega) (by omega)]
      have := t32_l1 k L hl j (i + 1) (by omega) (by omega)
      simp only [beq_self_eq_true, bytes_self, Bool.and_self, Bool.not_true, cond_false]
      exact this
    · rw [decide_eq_false hi]; rfl

theorem t32 (k : Nat) (L : List GItem) (hl : L.length ≤ 2147483647) (hk : L.length < k) : F32 k (L ++ [mark]) L = some true := by
  unfold F32
  have h1 : (((L ++ [mark]).length : Int) != (w ((L.length : Int) + 1))) = false := by
    rw [w_id (by omega) (by omega)]
    simp
  have h2 : (L ++ [mark])[(L.length : Int).toNat]? = some mark := by simp
  have h3 := t32_l1 k L hl k 0 (by omega) (by omega)
  have h3' : F32_l1 k (L ++ [mark]) L k 0 = some (.inl ()) := h3
  rw [h1, bindI_eq (by omega) h2, h3']
  rfl

/-- **What LineTells computes is true.** -/
theorem t9 (L : List GItem) (A : List GAsk) (hl : (L.length : Int) < 9223372036854775808) : F9 (L.length + 61) L A = some true := by
  unfold F9
  obtain ⟨b, hb, hb'⟩ := t27 (L.length + 61) L hl (by omega)
  rw [hb, Option.bind_some]
  cases b with
  | true => rfl
  | false =>
    have hn := hb' rfl
    rw [cond_false, t29 _ L hn, Option.bind_some]
    have h3 := t9_l1 (L.length + 61) L A (by omega) (L.length + 61) 0 (by omega) (by omega)
    have h3' : F9_l1 (L.length + 61) L A (L ++ [mark]) (L.length + 61) 0 = some (.inl ()) := h3
    rw [h3', Option.bind_some]
    simp only [Sum.elim_inl]
    rw [t32 _ L hn (by omega)]
    rfl

end
end Go.Eng.Lift
