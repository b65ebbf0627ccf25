/-
  Layer 16: GlueInside, the plain law: what is computed answers true.
-/
import Derived.Test.YtfgccgoeiedbnaaQ4
set_option linter.unusedVariables false
set_option linter.unusedSimpArgs false
set_option maxRecDepth 4000
namespace Go.Eng.Lift
open Go.Proofs
noncomputable section
/-! ### Where the boxes stand -/
def isB (y : GItem) : Bool := y.kind == 1
def plI (f : Nat) (M : List GItem) : Nat → List Int
  | 0 => []
  | i + 1 => match M[i]? with
    | some y => bif isB y then plI f M i ++ [((f + i : Nat) : Int)] else plI f M i
    | none => plI f M i
def lfI (M : List GItem) (m S : Int) (g : Bool) : Nat → List Int
  | 0 => []
  | i + 1 => match M[i]? with
    | some y => bif isB y then lfI M m S g i ++ [atI M m S g i] else lfI M m S g i
    | none => lfI M m S g i
def enI (M : List GItem) (m S : Int) (g : Bool) : Nat → Int
  | 0 => 0
  | i + 1 => match M[i]? with
    | some y => bif isB y then atI M m S g i + y.width else enI M m S g i
    | none => enI M m S g i
def laI (M : List GItem) (m S : Int) (g : Bool) : Nat → Int
  | 0 => 0
  | i + 1 => match M[i]? with
    | some y => bif isB y then atI M m S g i else laI M m S g i
    | none => laI M m S g i
section pl
variable {f : Nat} {M : List GItem} {m S : Int} {g : Bool} {i : Nat} {y : GItem} (hy : M[i]? = some y)
include hy
theorem pl_succ : plI f M (i + 1) = bif isB y then plI f M i ++ [((f + i : Nat) : Int)] else plI f M i := by
  show (match M[i]? with | some y => bif isB y then plI f M i ++ [((f + i : Nat) : Int)] else plI f M i | none => plI f M i) = _
  rw [hy]
theorem lf_succ : lfI M m S g (i + 1) = bif isB y then lfI M m S g i ++ [atI M m S g i] else lfI M m S g i := by
  show (match M[i]? with | some y => bif isB y then lfI M m S g i ++ [atI M m S g i] else lfI M m S g i | none => lfI M m S g i) = _
  rw [hy]
theorem en_succ : enI M m S g (i + 1) = bif isB y then atI M m S g i + y.width else enI M m S g i := by
  show (match M[i]? with | some y => bif isB y then atI M m S g i + y.width else enI M m S g i | none => enI M m S g i) = _
  rw [hy]
theorem la_succ : laI M m S g (i + 1) = bif isB y then atI M m S g i else laI M m S g i := by
  show (match M[i]? with | some y => bif isB y then atI M m S g i else laI M m S g i | none => laI M m S g i) = _
  rw [hy]
end pl
theorem pl_len (f : Nat) (M : List GItem) (m S : Int) (g : Bool) : ∀ i, (plI f M i).length = (lfI M m S g i).length ∧ (plI f M i).length ≤ i
  | 0 => ⟨rfl, Nat.le_refl _⟩
  | i + 1 => by
    obtain ⟨h1, h2⟩ := pl_len f M m S g i
    cases hy : M[i]? with
    | none =>
      have e1 : plI f M (i + 1) = plI f M i := by show (match M[i]? with | some y => bif isB y then plI f M i ++ [((f + i : Nat) : Int)] else plI f M i | none => plI f M i) = _; rw [hy]
      have e2 : lfI M m S g (i + 1) = lfI M m S g i := by show (match M[i]? with | some y => bif isB y then lfI M m S g i ++ [atI M m S g i] else lfI M m S g i | none => lfI M m S g i) = _; rw [hy]
      rw [e1, e2]; exact ⟨h1, by omega⟩
    | some y =>
      rw [pl_succ hy, lf_succ hy]
      cases hb : isB y with
      | false => simp only [hb, cond_false]; exact ⟨h1, by omega⟩
      | true => simp only [hb, cond_true, List.length_append, List.length_singleton]; omega
theorem pl_pre (f : Nat) (M : List GItem) {i : Nat} : ∀ n, ∃ l, plI f M (i + n) = plI f M i ++ l
  | 0 => ⟨[], by simp⟩
  | n + 1 => by
    obtain ⟨l, hl⟩ := pl_pre f M (i := i) n
    show ∃ l, plI f M (i + n + 1) = _
    cases hy : M[i + n]? with
    | none => exact ⟨l, by rw [← hl]; show (match M[i + n]? with | some y => bif isB y then plI f M (i + n) ++ [((f + (i + n) : Nat) : Int)] else plI f M (i + n) | none => plI f M (i + n)) = _; rw [hy]⟩
    | some y =>
      rw [pl_succ hy]
      cases isB y with
      | false => exact ⟨l, hl⟩
      | true => exact ⟨l ++ [((f + (i + n) : Nat) : Int)], by rw [cond_true, hl, List.append_assoc]⟩
/-- the meter, far below its budgets -/
def G : Int := 4611686018427387904
theorem t22 (k : Nat) (n : Int) (b : Bool) {st ce : Int} {P Q : List Int} (x : Int) (h1 : 0 ≤ st) (h2 : st ≤ 5000) (h3 : 0 ≤ ce) (h4 : ce ≤ 5000) (hP : P.length ≤ 5000) (hQ : Q.length ≤ 5000) :
    F22_s k n b ⟨st, st, G, ce, ce, G, 0⟩ P Q x = some (true, ⟨st + 1, st + 1, G, ce + (bif b then 1 else 0), ce + (bif b then 1 else 0), G, 0⟩, (bif b then P ++ [n] else P), (bif b then Q ++ [x] else Q), x) := by
  have hG : G = 4611686018427387904 := rfl
  have e1 : F23 k ⟨st, st, G, ce, ce, G, 0⟩ 1 = some (true, ⟨st + 1, st + 1, G, ce, ce, G, 0⟩) := by
    unfold F23 F31_s F36_s
    dsimp only
    rw [decide_eq_false (show ¬ (1 : Int) < 0 by decide), w_id (n := G - st) (by omega) (by omega), decide_eq_false (show ¬ (1 : Int) > G - st by omega), w_id (n := st + 1) (by omega) (by omega), if_pos (show st + 1 > st by omega)]
    rfl
  have e2 : F24 k ⟨st + 1, st + 1, G, ce, ce, G, 0⟩ 1 = some (true, ⟨st + 1, st + 1, G, ce + 1, ce + 1, G, 0⟩) := by
    unfold F24 F31_s2 F36_s2
    dsimp only
    rw [decide_eq_false (show ¬ (1 : Int) < 0 by decide), w_id (n := G - ce) (by omega) (by omega), decide_eq_false (show ¬ (1 : Int) > G - ce by omega), w_id (n := ce + 1) (by omega) (by omega), if_pos (show ce + 1 > ce by omega)]
    rfl
  unfold F22_s
  rw [e1, Option.bind_some]
  cases b with
  | false => simp only [Bool.not_true, cond_true, cond_false, Option.bind_some, Int.add_zero]
  | true =>
    simp only [Bool.not_true, cond_true, cond_false, e2, Option.bind_some]
    unfold bindA
    rw [if_pos (by rw [List.length_singleton]; omega)]
    dsimp only
    rw [if_pos (by rw [List.length_singleton]; omega), Option.bind_some]
section loop
variable (k : Nat) (hk : 4 ≤ k) {L M : List GItem} {f : Nat} (hr : Row L M f) {m S : Int} {g : Bool} (hs : Sett M m S g) (a2 : GLine) (hf : a2.first = (f : Int)) (r1 : (List GItem) × Int × Bool) (h1 : r1.1 = M)
include hk hr hs hf h1
theorem t7l : ∀ j i : Nat, i ≤ M.length → M.length < j + i →
    F7_l1 k a2 r1 j i i i G (plI f M i).length (plI f M i).length G 0 (plI f M i) (lfI M m S g i) m S g (bfI M S g i) (atI M m S g i) =
      some (.inl (M.length, M.length, G, (plI f M M.length).length, (plI f M M.length).length, G, 0, plI f M M.length, lfI M m S g M.length, atI M m S g M.length))
  | 0, i, h2, h3 => by omega
  | j + 1, i, h2, h3 => by
    have hl := hr.lenM
    have hF := fun t y hy => hr.fineM (t := t) (y := y) hy
    unfold F7_l1
    rw [h1]
    by_cases hi : i < M.length
    · have hy : M[i]? = some M[i] := List.getElem?_eq_getElem hi
      have hy' : M[(i : Int).toNat]? = some M[i] := by rw [show (i : Int).toNat = i by omega]; exact hy
      have fy := hF _ _ hy
      rw [decide_eq_true (show (i : Int) < M.length by omega), cond_true, bindI_eq (by omega) hy']
      generalize M[i] = y at *
      have pn := pl_len f M m S g i
      have ll := hr.le
      have le := hr.len
      have bd := at_bd hs hl hF (i + 1) (by omega)
      rw [hf, w_id (n := (f : Int) + (i : Int)) (by omega) (by omega), t22 k ((f : Int) + (i : Int)) (y.kind == 1) (atI M m S g i) (by omega) (by omega) (by omega) (by omega) (by omega) (by omega), Option.bind_some]
      have ep : (bif y.kind == 1 then plI f M i ++ [(f : Int) + (i : Int)] else plI f M i) = plI f M (i + 1) := (pl_succ (f := f) hy).symm
      have eq : (bif y.kind == 1 then lfI M m S g i ++ [atI M m S g i] else lfI M m S g i) = lfI M m S g (i + 1) := (lf_succ hy).symm
      have ec : ((plI f M i).length : Int) + (bif y.kind == 1 then 1 else 0) = ((plI f M (i + 1)).length : Int) := by
        rw [← ep]; cases (y.kind == 1) <;> simp
      dsimp only
      rw [ep, eq, ec, w_id (n := (i : Int) + 1) (by omega) (by omega)]
      have ih := t7l j (i + 1) (by omega) (by omega)
      rw [show ((i + 1 : Nat) : Int) = (i : Int) + 1 by omega] at ih
      rw [Bool.not_true, cond_false]
      by_cases q3 : y.kind = 3
      · have q3' : (y.kind == 3) = true := by rw [q3]; rfl
        have q1 : (y.kind == 1) = false := by rw [q3]; rfl
        have q2 : (y.kind == 2) = false := by rw [q3]; rfl
        obtain ⟨n, hn, hn'⟩ := t26 hs hl hF k hk hy q3 _ rfl
        rw [q1, q2, q3']
        simp only [cond_true, cond_false, Option.bind_some, hn, hn']
        exact ih
      · have q3' : (y.kind == 3) = false := by rw [beq_eq_false_iff_ne]; exact q3
        have ea := at_same (m := m) (S := S) (g := g) hy q3
        have eb := (sh_same (m := m) (S := S) (g := g) hy q3).2
        rw [← eb]
        by_cases q1 : y.kind = 1 ∨ y.kind = 2
        · rw [show nat1 y = y.width from if_pos (by omega)] at ea
          have : (Option.bind (α := Bool) (bif y.kind == 1 then (some (y.kind == 1)) else (some (y.kind == 2))) fun (v62 : Bool) => some v62) = some true := by
            rcases q1 with q | q <;> rw [q] <;> rfl
          have e0 : (bif y.kind == 1 then (some (y.kind == 1)) else (some (y.kind == 2))) = some true := by
            rcases q1 with q | q <;> rw [q] <;> rfl
          rw [e0, Option.bind_some, cond_true, Option.bind_some, w_id (n := atI M m S g i + y.width) (by omega) (by omega), ← ea]
          exact ih
        · rw [show nat1 y = 0 from if_neg (by omega), Int.add_zero] at ea
          have e0 : (bif y.kind == 1 then (some (y.kind == 1)) else (some (y.kind == 2))) = some false := by
            rw [show (y.kind == 1) = false by rw [beq_eq_false_iff_ne]; omega, show (y.kind == 2) = false by rw [beq_eq_false_iff_ne]; omega]; rfl
          rw [e0, Option.bind_some, cond_false, q3', cond_false, Option.bind_some, ← ea]
          exact ih
    · have : i = M.length := by omega
      subst this
      rw [decide_eq_false (by omega)]
      rfl
end loop
end
end Go.Eng.Lift
