/-
  Layer 14: the document's line and the program's are the same.
-/
import Derived.Test.YtjobmgleekphjaaP9
set_option linter.unusedVariables false
set_option linter.unusedSimpArgs false
namespace Go.Eng.Lift
open Go.Proofs
noncomputable section

theorem x70 (k : Nat) (y : GItem) : F70 k y = some (y.kind == 4 && decide (y.value ≤ -10000)) := by
  unfold F70
  cases (y.kind == 4) <;> rfl
theorem x96 (k : Nat) (L : List GItem) (i : Int) (y : GItem) (h0 : 0 ≤ i) (hy : L[i.toNat]? = some y) : F96 k L i = some (y.kind == 4 && (y.value == -10000)) := by
  unfold F96
  simp only [bindI_eq h0 hy]
  cases (y.kind == 4) <;> rfl
theorem same_pen {y : GItem} (hf : Fine y) : (y.kind == 4 && (y.value == -10000)) = (y.kind == 4 && decide (y.value ≤ -10000)) := by
  cases q : (y.kind == 4) with
  | false => rfl
  | true =>
    have := hf.val (eq_of_beq q)
    rw [Bool.true_and, Bool.true_and, Bool.eq_iff_iff]
    simp
    omega

theorem e74 (k : Nat) (L : List GItem) (a1 a2 a3 : Int) (hl : L.length ≤ 4096) (hk : L.length < k) (hf : ∀ (t : Nat) (y : GItem), L[t]? = some y → Fine y) (h1 : 1 ≤ a1) (h1' : a1 ≤ 536870912) (h2 : -1 ≤ a2) (h3 : a2 < a3) (h4 : a3 < L.length) :
    F74 k L a1 a2 a3 = F71 k L a1 a2 a3 := by
  unfold F71 F74
  simp only [e71_l1, e71_l2]
  rw [w_id (n := a2 + 1) (by omega) (by omega)]
  obtain ⟨v1, e1, k1, k2⟩ := t71_l1 k L a3 hl h4 k (a2 + 1) (by omega) (by omega) (by omega)
  rw [e1, Option.bind_some, Option.bind_some]
  obtain ⟨v7, e2, k3, k4⟩ := t71_l2 k L v1 hl (by omega) k a3 (by omega) (by omega) (by omega)
  rw [e2, Option.bind_some, Option.bind_some]
  unfold bindS
  rw [if_pos ⟨by omega, by omega, by omega⟩]
  obtain ⟨a, b, c, d, e, e3, b1, b2, b3, b4, b5, b6⟩ := t71_l3 k ((L.take v7.toNat).drop v1.toNat) (by simp; omega) (fun t y hy => by
    rw [List.getElem?_drop, List.getElem?_take] at hy
    split at hy
    · exact hf _ y hy
    · cases hy) k 0 0 0 0 0 0 (by omega) (by simp; omega) (by omega) (by omega) (by omega) (by omega) (by omega) (by omega)
  have e3' : F71_l3 k ((L.take v7.toNat).drop v1.toNat) k 0 0 0 0 0 0 = some (a, b, c, d, e) := e3
  have e4 := e71_l3 k L v1 v7 (by omega) k3 (by omega) hl k 0 0 0 0 0 0 (by omega)
  rw [show v1 + ((0 : Nat) : Int) = v1 by omega, e3] at e4
  dsimp only
  rw [e3', e4, Option.bind_some, Option.bind_some]
  dsimp only
  obtain ⟨y, hy⟩ := at_of (L := L) (i := a3) (by omega) h4
  rw [bindI_eq (by omega) hy, bindI_eq (by omega) hy]
  have fin : ∀ (n : Int) (f g : Bool) (u v : Int), -4503599627370496 ≤ n → n ≤ 4504699139000000 → F97 k (GLine.mk v1 v7 a3 n b c (w (a1 - n)) 0 0 false f g u v) = F95 k (GLine.mk v1 v7 a3 n b c (w (a1 - n)) 0 0 false f g u v) := by
    intro n f g u v n1 n2
    rw [w_id (n := a1 - n) (by omega) (by omega)]
    exact e95 k (GLine.mk v1 v7 a3 n b c (a1 - n) 0 0 false f g u v) b3 b4 b5 b6 (by show _ ≤ a1 - n; omega) (by show a1 - n ≤ _; omega)
  have fy := hf _ y hy
  have sp := same_pen fy
  cases q : (y.kind == 4) with
  | false =>
    simp only [cond_false, Option.bind_some, fin a false false d e (by omega) (by omega)]
  | true =>
    rw [q, Bool.true_and, Bool.true_and] at sp
    have := fy.pen (eq_of_beq q)
    have ew := w_id (n := a + y.width) (by omega) (by omega)
    have fin' : ∀ f g u v, F97 k (GLine.mk v1 v7 a3 (w (a + y.width)) b c (w (a1 - (w (a + y.width)))) 0 0 false f g u v) = F95 k (GLine.mk v1 v7 a3 (w (a + y.width)) b c (w (a1 - (w (a + y.width)))) 0 0 false f g u v) := fun f g u v => fin _ f g u v (by omega) (by omega)
    simp only [x70, q, Bool.true_and, cond_true, Option.bind_some, sp]
    cases hy' : y.flag with
    | false => simp only [cond_false, Option.bind_some, fin']
    | true =>
      simp only [cond_true, Option.bind_some, ← ite_cond]
      cases decide (y.height > d) <;> cases decide (y.depth > e) <;> simp only [cond_true, cond_false, Option.bind_some, fin']

theorem e68 (k : Nat) (L : List GItem) (i : Int) : F67 k L i = F68 k L i := rfl

theorem e94 (k : Nat) (L : List GItem) (lo a3 : Int) (hl : L.length ≤ 4096) (hf : ∀ (t : Nat) (y : GItem), L[t]? = some y → Fine y) (h0 : 0 ≤ lo) (h3 : lo ≤ a3) (h4 : a3 < L.length) : ∀ (j i : Nat), lo + i ≤ a3 → a3 - (lo + i) < j →
    (F73_l1 k L a3 j (lo + i) = some (.inl ()) ∧ F94_70_l1 k ((L.take a3.toNat).drop lo.toNat) j i = some (.inl ())) ∨ (F73_l1 k L a3 j (lo + i) = some (.inr false) ∧ ∃ n : Int, 0 ≤ n ∧ F94_70_l1 k ((L.take a3.toNat).drop lo.toNat) j i = some (.inr n))
  | 0, i, h5, h6 => by omega
  | j + 1, i, h5, h6 => by
    have hM : ((L.take a3.toNat).drop lo.toNat).length = a3.toNat - lo.toNat := by simp; omega
    unfold F73_l1 F94_70_l1
    by_cases hv : lo + i < a3
    · rw [decide_eq_true hv, decide_eq_true (show (i : Int) < ((L.take a3.toNat).drop lo.toNat).length by rw [hM]; omega)]
      obtain ⟨y, hy⟩ := at_of (L := L) (i := lo + i) (by omega) (by omega)
      have hy' : ((L.take a3.toNat).drop lo.toNat)[(i : Int).toNat]? = some y := by
        rw [List.getElem?_drop, List.getElem?_take, if_pos (by omega), show lo.toNat + (i : Int).toNat = (lo + i).toNat by omega]
        exact hy
      rw [cond_true, cond_true, bindI_eq (by omega) hy', x96 k L _ y (by omega) hy, x70, same_pen (hf _ y hy), Option.bind_some, Option.bind_some]
      cases (y.kind == 4 && decide (y.value ≤ -10000)) with
      | true => exact .inr ⟨rfl, i, by omega, rfl⟩
      | false =>
        rw [cond_false, cond_false, w_id (n := lo + i + 1) (by omega) (by omega), w_id (n := (i : Int) + 1) (by omega) (by omega)]
        have := e94 k L lo a3 hl hf h0 h3 h4 j (i + 1) (by omega) (by omega)
        rw [show lo + ((i + 1 : Nat) : Int) = lo + i + 1 by omega] at this
        exact this
    · rw [decide_eq_false hv, decide_eq_false (show ¬ (i : Int) < ((L.take a3.toNat).drop lo.toNat).length by rw [hM]; omega)]
      exact .inl ⟨rfl, rfl⟩

end
end Go.Eng.Lift
