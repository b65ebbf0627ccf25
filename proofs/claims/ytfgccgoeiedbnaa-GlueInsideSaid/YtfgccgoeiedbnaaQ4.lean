/-
  Layer 16: glue, set: what Set computes, in closed form.
-/
import Derived.Test.YtfgccgoeiedbnaaQ3
set_option linter.unusedVariables false
set_option linter.unusedSimpArgs false
namespace Go.Eng.Lift
open Go.Proofs
noncomputable section
/-! ### What a share is -/
theorem t37 (k : Nat) (a : Int) : F37 k a = some (decide (a ≥ -70368744177664) && decide (a ≤ 70368744177664)) := by
  unfold F37
  cases decide (a ≥ -70368744177664) <;> rfl
theorem t38 (k : Nat) (hk : 4 ≤ k) {a b c : Nat} (ha : a < 18446744073709551616) (hb : b < 18446744073709551616) (hc : c < 18446744073709551616) (hlt : a * b / 18446744073709551616 < c) (hq : a * b / c < 9223372036854775808) : F38 k a b c = some ((a * b / c : Nat) : Int) := by
  unfold F38
  have e1 : F41 k a = some (a : Int) := by unfold F41; rw [decide_eq_false (by omega), cond_false, wuN ha]
  rw [e1, Option.bind_some, wuN hb, t40 k ha hb, Option.bind_some, wuN hc]
  dsimp only
  rw [t42 k hk hlt (Nat.mod_lt _ (by decide)) hc, Option.bind_some]
  dsimp only
  rw [Nat.div_add_mod', decide_eq_true (show (a : Int) ≥ 0 by omega), cond_true]
  generalize a * b / c = z at *
  rw [w_id (by omega) (by omega)]
theorem t32n (k : Nat) (hk : 4 ≤ k) {m p q a : Nat} (hm : m ≤ 70368744177664) (hpq : p ≤ q) (hqa : q ≤ a) (ha : a ≤ 70368744177664) (h1 : 1 ≤ a) : F32 k m p q a = some (((m * q / a : Nat) : Int) - ((m * p / a : Nat) : Int)) := by
  have key : ∀ x, x ≤ a → m * x / 18446744073709551616 < a ∧ m * x / a ≤ m := fun x hx => by
    constructor
    · refine (Nat.div_lt_iff_lt_mul (by decide)).2 ?_
      have h2 : m * x ≤ 70368744177664 * a := Nat.mul_le_mul hm hx
      omega
    · refine Nat.div_le_of_le_mul ?_
      rw [Nat.mul_comm a]
      exact Nat.mul_le_mul_left m hx
  obtain ⟨k1, k2⟩ := key q hqa
  obtain ⟨k3, k4⟩ := key p (by omega)
  unfold F32
  rw [t37, Option.bind_some, decide_eq_true (show (m : Int) ≥ -70368744177664 by omega), decide_eq_true (show (m : Int) ≤ 70368744177664 by omega), decide_eq_false (show ¬ (p : Int) < 0 by omega), decide_eq_false (show ¬ (p : Int) > q by omega), decide_eq_false (show ¬ (q : Int) > a by omega), decide_eq_false (show ¬ (a : Int) > 70368744177664 by omega), decide_eq_false (show ¬ (a : Int) < 1 by omega)]
  rw [t38 k hk (by omega) (by omega) (by omega) k1 (by omega), t38 k hk (by omega) (by omega) (by omega) k3 (by omega)]
  show some (w _) = _
  generalize m * q / a = z at *
  generalize m * p / a = z' at *
  rw [w_id (by omega) (by omega)]
theorem t32 (k : Nat) (hk : 4 ≤ k) {m p q a : Int} (hm0 : 0 ≤ m) (hm : m ≤ 70368744177664) (hp : 0 ≤ p) (hpq : p ≤ q) (hqa : q ≤ a) (ha : a ≤ 70368744177664) (h1 : 1 ≤ a) : F32 k m p q a = some (m * q / a - m * p / a) := by
  obtain ⟨m, rfl⟩ := Int.eq_ofNat_of_zero_le hm0
  obtain ⟨p, rfl⟩ := Int.eq_ofNat_of_zero_le hp
  obtain ⟨q, rfl⟩ := Int.eq_ofNat_of_zero_le (show 0 ≤ q by omega)
  obtain ⟨a, rfl⟩ := Int.eq_ofNat_of_zero_le (show 0 ≤ a by omega)
  rw [t32n k hk (by omega) (by omega) (by omega) (by omega) (by omega), Int.natCast_ediv, Int.natCast_ediv, Int.natCast_mul, Int.natCast_mul]
/-! ### Sums over a line's items -/
def wt (g : Bool) (y : GItem) : Int := if y.kind = 3 then (bif g then y.stretch else y.shrink) else 0
def nat1 (y : GItem) : Int := if y.kind = 1 ∨ y.kind = 2 ∨ y.kind = 3 then y.width else 0
def sm (f : GItem → Int) (M : List GItem) : Nat → Int
  | 0 => 0
  | i + 1 => sm f M i + ((M[i]?).map f).getD 0
theorem sm_succ {f : GItem → Int} {M : List GItem} {i : Nat} {y : GItem} (h : M[i]? = some y) : sm f M (i + 1) = sm f M i + f y := by
  show sm f M i + ((M[i]?).map f).getD 0 = _
  rw [h]; rfl
structure Row (L M : List GItem) (f : Nat) : Prop where
  len : L.length ≤ 4096
  at_ : ∀ t, t < M.length → M[t]? = L[f + t]?
  le : f + M.length ≤ L.length
  good : ∀ t y, L[t]? = some y → Good y (prevOf L t) (nextOf L t)
  first : ∀ y, M[0]? = some y → y.kind = 1
  last : ∀ y, M[M.length - 1]? = some y → y.kind = 1
theorem Row.goodM {L M : List GItem} {f : Nat} (h : Row L M f) {t : Nat} {y : GItem} (hy : M[t]? = some y) : Good y (prevOf L (f + t)) (nextOf L (f + t)) := by
  have ht : t < M.length := by
    rcases Nat.lt_or_ge t M.length with h1 | h1
    · exact h1
    · rw [List.getElem?_eq_none h1] at hy; cases hy
  exact h.good _ _ (by rw [← h.at_ t ht]; exact hy)
theorem Row.fineM {L M : List GItem} {f : Nat} (h : Row L M f) {t : Nat} {y : GItem} (hy : M[t]? = some y) : Fine y := by
  have ht : t < M.length := by
    rcases Nat.lt_or_ge t M.length with h1 | h1
    · exact h1
    · rw [List.getElem?_eq_none h1] at hy; cases hy
  exact fine_of h.good (by rw [← h.at_ t ht]; exact hy)
theorem Row.lenM {L M : List GItem} {f : Nat} (h : Row L M f) : M.length ≤ 4096 := by have := h.len; have := h.le; omega
theorem wt_bd {g : Bool} {y : GItem} (h : Fine y) : 0 ≤ wt g y ∧ wt g y ≤ 67108864 := by
  unfold wt
  split
  · rename_i e
    have := h.glue e
    cases g <;> simp only [cond_true, cond_false] <;> omega
  · omega
theorem nat1_bd {y : GItem} (h : Fine y) : -1099511627776 ≤ nat1 y ∧ nat1 y ≤ 1099511627776 := by
  unfold nat1
  split
  · rename_i e; exact h.width e
  · omega
theorem sm_bd {M : List GItem} (hf : ∀ (t : Nat) (y : GItem), M[t]? = some y → Fine y) : ∀ (i : Nat), i ≤ M.length → (-1099511627776 * i ≤ sm nat1 M i ∧ sm nat1 M i ≤ 1099511627776 * i) ∧ ∀ g, 0 ≤ sm (wt g) M i ∧ sm (wt g) M i ≤ 67108864 * i
  | 0, _ => ⟨⟨by show (-1099511627776 : Int) * ((0 : Nat) : Int) ≤ 0; decide, by show (0 : Int) ≤ (1099511627776 : Int) * ((0 : Nat) : Int); decide⟩, fun g => ⟨by show (0 : Int) ≤ 0; decide, by show (0 : Int) ≤ (67108864 : Int) * ((0 : Nat) : Int); decide⟩⟩
  | i + 1, h => by
    obtain ⟨h1, h2⟩ := sm_bd hf i (by omega)
    have hy : M[i]? = some M[i] := List.getElem?_eq_getElem (by omega)
    have fy := hf _ _ hy
    have b1 := nat1_bd fy
    refine ⟨?_, fun g => ?_⟩
    · rw [sm_succ hy]; omega
    · have b2 := wt_bd (g := g) fy
      have b3 := h2 g
      rw [sm_succ hy]; omega
theorem sm_mono {M : List GItem} (hf : ∀ (t : Nat) (y : GItem), M[t]? = some y → Fine y) (g : Bool) {i : Nat} : ∀ (n : Nat), i + n ≤ M.length → sm (wt g) M i ≤ sm (wt g) M (i + n)
  | 0, _ => Int.le_refl _
  | n + 1, h => by
    have h1 := sm_mono hf g n (show i + n ≤ M.length by omega)
    have hy : M[i + n]? = some M[i + n] := List.getElem?_eq_getElem (by omega)
    have b2 := wt_bd (g := g) (hf _ _ hy)
    rw [show i + (n + 1) = (i + n) + 1 by omega, sm_succ hy]; omega
theorem e18_l3 (k : Nat) {M : List GItem} (hl : M.length ≤ 4096) (hf : ∀ (t : Nat) (y : GItem), M[t]? = some y → Fine y) : ∀ (j i : Nat) (d e : Int), i ≤ M.length → M.length < j + i →
    ∃ d' e', F18_l3 k M j i (sm nat1 M i) (sm (wt true) M i) (sm (wt false) M i) d e = some (sm nat1 M M.length, sm (wt true) M M.length, sm (wt false) M M.length, d', e')
  | 0, i, d, e, h1, h2 => by omega
  | j + 1, i, d, e, h1, h2 => by
    unfold F18_l3
    by_cases hi : i < M.length
    · have hy : M[i]? = some M[i] := List.getElem?_eq_getElem hi
      have hy' : M[(i : Int).toNat]? = some M[i] := by rw [show (i : Int).toNat = i by omega]; exact hy
      have fy := hf _ _ hy
      have bd := sm_bd hf (i + 1) (by omega)
      have bt := bd.2 true
      have bs := bd.2 false
      have bn := bd.1
      rw [decide_eq_true (show (i : Int) < M.length by omega), cond_true, bindI_eq (by omega) hy']
      generalize M[i] = y at *
      rw [w_id (n := (i : Int) + 1) (by omega) (by omega)]
      have ih := fun d e => e18_l3 k hl hf j (i + 1) d e (by omega) (by omega)
      have en := sm_succ (f := nat1) hy
      have et := sm_succ (f := wt true) hy
      have es := sm_succ (f := wt false) hy
      cases q1 : (y.kind == 1) with
      | true =>
        have q : y.kind = 1 := eq_of_beq q1
        rw [show nat1 y = y.width from if_pos (.inl q)] at en
        rw [show wt true y = 0 from if_neg (by omega), Int.add_zero] at et
        rw [show wt false y = 0 from if_neg (by omega), Int.add_zero] at es
        rw [w_id (n := sm nat1 M i + y.width) (by omega) (by omega), ← en, ← et, ← es]
        exact ih _ _
      | false =>
      cases q2 : (y.kind == 2) with
      | true =>
        have q : y.kind = 2 := eq_of_beq q2
        rw [show nat1 y = y.width from if_pos (.inr (.inl q))] at en
        rw [show wt true y = 0 from if_neg (by omega), Int.add_zero] at et
        rw [show wt false y = 0 from if_neg (by omega), Int.add_zero] at es
        rw [w_id (n := sm nat1 M i + y.width) (by omega) (by omega), ← en, ← et, ← es]
        exact ih _ _
      | false =>
      cases q3 : (y.kind == 3) with
      | true =>
        have q : y.kind = 3 := eq_of_beq q3
        rw [show nat1 y = y.width from if_pos (.inr (.inr q))] at en
        rw [show wt true y = y.stretch from if_pos q] at et
        rw [show wt false y = y.shrink from if_pos q] at es
        rw [w_id (n := sm nat1 M i + y.width) (by omega) (by omega), w_id (n := sm (wt true) M i + y.stretch) (by omega) (by omega), w_id (n := sm (wt false) M i + y.shrink) (by omega) (by omega), ← en, ← et, ← es]
        exact ih _ _
      | false =>
        have q1' : y.kind ≠ 1 := by simpa using q1
        have q2' : y.kind ≠ 2 := by simpa using q2
        have q3' : y.kind ≠ 3 := by simpa using q3
        rw [show nat1 y = 0 from if_neg (by omega), Int.add_zero] at en
        rw [show wt true y = 0 from if_neg (by omega), Int.add_zero] at et
        rw [show wt false y = 0 from if_neg (by omega), Int.add_zero] at es
        rw [← en, ← et, ← es]
        exact ih _ _
    · have : i = M.length := by omega
      subst this
      rw [decide_eq_false (by omega)]
      exact ⟨d, e, rfl⟩
theorem t21_l1 (k : Nat) {M : List GItem} (hl : M.length ≤ 4096) (hf : ∀ (t : Nat) (y : GItem), M[t]? = some y → Fine y) : ∀ (j i : Nat), i ≤ M.length → M.length < j + i →
    F21_l1 k M j (sm (wt true) M i) (sm (wt false) M i) i = some (sm (wt true) M M.length, sm (wt false) M M.length)
  | 0, i, h1, h2 => by omega
  | j + 1, i, h1, h2 => by
    unfold F21_l1
    by_cases hi : i < M.length
    · have hy : M[i]? = some M[i] := List.getElem?_eq_getElem hi
      have hy' : M[(i : Int).toNat]? = some M[i] := by rw [show (i : Int).toNat = i by omega]; exact hy
      have fy := hf _ _ hy
      have bd := sm_bd hf (i + 1) (by omega)
      have bt := bd.2 true
      have bs := bd.2 false
      rw [decide_eq_true (show (i : Int) < M.length by omega), cond_true, bindI_eq (by omega) hy']
      generalize M[i] = y at *
      rw [w_id (n := (i : Int) + 1) (by omega) (by omega)]
      have ih := t21_l1 k hl hf j (i + 1) (by omega) (by omega)
      have et := sm_succ (f := wt true) hy
      have es := sm_succ (f := wt false) hy
      cases q3 : (y.kind == 3) with
      | true =>
        have q : y.kind = 3 := eq_of_beq q3
        rw [show wt true y = y.stretch from if_pos q] at et
        rw [show wt false y = y.shrink from if_pos q] at es
        rw [w_id (n := sm (wt true) M i + y.stretch) (by omega) (by omega), w_id (n := sm (wt false) M i + y.shrink) (by omega) (by omega), ← et, ← es]
        exact ih
      | false =>
        have q3' : y.kind ≠ 3 := by simpa using q3
        rw [show wt true y = 0 from if_neg (by omega), Int.add_zero] at et
        rw [show wt false y = 0 from if_neg (by omega), Int.add_zero] at es
        rw [← et, ← es]
        exact ih
    · have : i = M.length := by omega
      subst this
      rw [decide_eq_false (by omega)]
      rfl
/-! ### A line's setting -/
structure Sett (M : List GItem) (m S : Int) (g : Bool) : Prop where
  m0 : 0 ≤ m
  m1 : m ≤ 70368744177664
  all : S = 0 ∨ (1 ≤ S ∧ S = sm (wt g) M M.length)
  less : g = false → m ≤ S
def shI (M : List GItem) (m S : Int) (g : Bool) (i : Nat) : Int := if S = 0 then 0 else m * sm (wt g) M i / S
def bfI (M : List GItem) (S : Int) (g : Bool) (i : Nat) : Int := if S = 0 then 0 else sm (wt g) M i
def atI (M : List GItem) (m S : Int) (g : Bool) (i : Nat) : Int := sm nat1 M i + (bif g then shI M m S g i else - shI M m S g i)
section setting
variable {M : List GItem} {m S : Int} {g : Bool} (hs : Sett M m S g) (hl : M.length ≤ 4096) (hf : ∀ (t : Nat) (y : GItem), M[t]? = some y → Fine y)
include hs hf in
theorem sh_bd (i : Nat) (hi : i ≤ M.length) : 0 ≤ shI M m S g i ∧ shI M m S g i ≤ m := by
  unfold shI
  split
  · exact ⟨Int.le_refl _, hs.m0⟩
  · rename_i h0
    rcases hs.all with h | ⟨h1, h2⟩
    · exact absurd h h0
    have hb := ((sm_bd hf i hi).2 g).1
    have hm := sm_mono hf g (i := i) (M.length - i) (by omega)
    rw [show i + (M.length - i) = M.length by omega, ← h2] at hm
    refine ⟨Int.ediv_nonneg (Int.mul_nonneg hs.m0 hb) (by omega), ?_⟩
    have : m * sm (wt g) M i ≤ m * S := Int.mul_le_mul_of_nonneg_left hm hs.m0
    have h3 := Int.ediv_le_ediv (show 0 < S by omega) this
    rw [Int.mul_ediv_cancel _ (by omega)] at h3
    exact h3
include hs hf in
/-- one item's share -/
theorem sh_step {i : Nat} {y : GItem} (hy : M[i]? = some y) : 0 ≤ shI M m S g (i + 1) - shI M m S g i ∧ (g = false → shI M m S g (i + 1) - shI M m S g i ≤ wt g y) := by
  have wy := wt_bd (g := g) (hf _ _ hy)
  unfold shI
  by_cases h0 : S = 0
  · rw [if_pos h0, if_pos h0]; omega
  rw [if_neg h0, if_neg h0]
  rcases hs.all with h | ⟨h1, h2⟩
  · exact absurd h h0
  rw [sm_succ hy]
  have e1 : m * (sm (wt g) M i + wt g y) = m * sm (wt g) M i + m * wt g y := Int.mul_add _ _ _
  constructor
  · have : m * sm (wt g) M i ≤ m * (sm (wt g) M i + wt g y) := Int.mul_le_mul_of_nonneg_left (by omega) hs.m0
    have := Int.ediv_le_ediv (show 0 < S by omega) this
    omega
  · intro hg
    have h3 : m * wt g y ≤ S * wt g y := Int.mul_le_mul_of_nonneg_right (hs.less hg) wy.1
    have h4 : m * (sm (wt g) M i + wt g y) ≤ m * sm (wt g) M i + S * wt g y := by omega
    have h5 := Int.ediv_le_ediv (show 0 < S by omega) h4
    rw [Int.add_mul_ediv_left _ _ (by omega)] at h5
    omega
include hs hl hf in
theorem at_bd (i : Nat) (hi : i ≤ M.length) : -9007199254740992 ≤ atI M m S g i ∧ atI M m S g i ≤ 9007199254740992 := by
  have h1 := (sm_bd hf i hi).1
  have h2 := sh_bd hs hf i hi
  have h3 := hs.m1
  unfold atI
  cases g <;> simp only [cond_true, cond_false] <;> omega
theorem sh_same {i : Nat} {y : GItem} (hy : M[i]? = some y) (hk : y.kind ≠ 3) : shI M m S g (i + 1) = shI M m S g i ∧ bfI M S g (i + 1) = bfI M S g i := by
  unfold shI bfI
  rw [sm_succ hy, show wt g y = 0 from if_neg hk, Int.add_zero]
  exact ⟨rfl, rfl⟩
theorem at_same {i : Nat} {y : GItem} (hy : M[i]? = some y) (hk : y.kind ≠ 3) : atI M m S g (i + 1) = atI M m S g i + nat1 y := by
  unfold atI
  rw [(sh_same hy hk).1, sm_succ hy]
  omega
include hs hf in
theorem at_glue {i : Nat} {y : GItem} (hy : M[i]? = some y) (hk : y.kind = 3) (hw : y.shrink ≤ y.width) : atI M m S g i ≤ atI M m S g (i + 1) := by
  have fy := hf _ _ hy
  have h1 := sh_step hs hf hy
  have h2 := (fy.glue hk)
  unfold atI
  rw [sm_succ hy, show nat1 y = y.width from if_pos (.inr (.inr hk))]
  cases g with
  | true => simp only [cond_true] at *; omega
  | false =>
    have h3 := h1.2 rfl
    rw [show wt false y = y.shrink from if_pos hk] at h3
    simp only [cond_false] at *; omega
include hs hl hf in
/-- glue's set width -/
theorem t26 (k : Nat) (hk : 4 ≤ k) {i : Nat} {y : GItem} (hy : M[i]? = some y) (h3 : y.kind = 3) (x : Int) (hx : x = atI M m S g i) :
    ∃ n, F26 k ⟨m, S, g, bfI M S g i⟩ y = some (n, ⟨m, S, g, bfI M S g (i + 1)⟩) ∧ w (x + n) = atI M m S g (i + 1) := by
  have fy := hf _ _ hy
  have hi : i < M.length := by
    rcases Nat.lt_or_ge i M.length with h1 | h1
    · exact h1
    · rw [List.getElem?_eq_none h1] at hy; cases hy
  have bd := at_bd hs hl hf (i + 1) (by omega)
  have en := sm_succ (f := nat1) hy
  rw [show nat1 y = y.width from if_pos (.inr (.inr h3))] at en
  have wy := fy.width (.inr (.inr h3))
  unfold F26
  by_cases h0 : S = 0
  · have e0 : (S == 0) = true := by rw [h0]; rfl
    rw [e0, cond_true]
    refine ⟨_, by unfold bfI; rw [if_pos h0, if_pos h0], ?_⟩
    have : x + y.width = atI M m S g (i + 1) := by
      rw [hx]; unfold atI shI; rw [if_pos h0, if_pos h0, en]; cases g <;> simp only [cond_true, cond_false] <;> omega
    rw [this, w_id (by omega) (by omega)]
  · have e0 : (S == 0) = false := by rw [beq_eq_false_iff_ne]; exact h0
    rcases hs.all with h | ⟨h1, h2⟩
    · exact absurd h h0
    have e1 : (bif g then some y.stretch else some y.shrink) = some (wt g y) := by
      unfold wt; rw [if_pos h3]; cases g <;> rfl
    have wy' := wt_bd (g := g) fy
    have b1 := (sm_bd hf i (by omega)).2 g
    have b2 := (sm_bd hf M.length (Nat.le_refl _)).2 g
    have hm := sm_mono hf g (i := i + 1) (M.length - (i + 1)) (by omega)
    rw [show i + 1 + (M.length - (i + 1)) = M.length by omega, ← h2, sm_succ hy] at hm
    rw [e0, cond_false, e1, Option.bind_some]
    have eb : bfI M S g i = sm (wt g) M i := if_neg h0
    have eb' : bfI M S g (i + 1) = sm (wt g) M i + wt g y := by unfold bfI; rw [if_neg h0, sm_succ hy]
    dsimp only
    rw [eb, eb', w_id (n := sm (wt g) M i + wt g y) (by omega) (by omega), t32 k hk hs.m0 hs.m1 b1.1 (by omega) hm (by omega) h1, Option.bind_some]
    have s1 := sh_bd hs hf i (by omega)
    have s2 := sh_bd hs hf (i + 1) (by omega)
    have e2 : shI M m S g i = m * sm (wt g) M i / S := if_neg h0
    have e3 : shI M m S g (i + 1) = m * (sm (wt g) M i + wt g y) / S := by unfold shI; rw [if_neg h0, sm_succ hy]
    have m1 := hs.m1
    rw [← e2, ← e3]
    have en' : atI M m S g (i + 1) = sm nat1 M i + y.width + (bif g then shI M m S g (i + 1) else - shI M m S g (i + 1)) := by unfold atI; rw [en]
    have ex : x = sm nat1 M i + (bif g then shI M m S g i else - shI M m S g i) := by rw [hx]; rfl
    cases g with
    | true =>
      rw [cond_true] at ex en' ⊢
      refine ⟨_, rfl, ?_⟩
      rw [w_id (n := y.width + _) (by omega) (by omega), show x + (y.width + (shI M m S true (i + 1) - shI M m S true i)) = atI M m S true (i + 1) by omega, w_id (by omega) (by omega)]
    | false =>
      rw [cond_false] at ex en' ⊢
      refine ⟨_, rfl, ?_⟩
      rw [w_id (n := y.width - _) (by omega) (by omega), show x + (y.width - (shI M m S false (i + 1) - shI M m S false i)) = atI M m S false (i + 1) by omega, w_id (by omega) (by omega)]
end setting
end
end Go.Eng.Lift
