/-
  The calculus: where paths meet; what a lifted function tells.
-/
import Derived.Test.YtjobmgleekphjaaM12
set_option linter.unusedSimpArgs false
set_option linter.unusedVariables false
namespace Go.Eng
noncomputable section
variable {P : Program} {O : FuncId → Option Value}

section code
variable {rnd : Option Nat} {s : PS} {Q : AX → PS → Prop}

def blockJK (id : Nat) (J : PS → Prop) (Q : AX → PS → Prop) : AX → PS → Prop
  | .normal, s => J s
  | .exit j, s => if j = id then J s else Q (.exit j) s
  | x, s => Q x s
theorem PC.blockJ {id : Nat} {x z : Code} (J : PS → Prop) (h1 : PC P O rnd x s (blockJK id J Q)) (h2 : ∀ s1, J s1 → PC P O rnd z s1 Q) : PC P O rnd (.seq (.block id x) z) s Q := by
  refine PC.block (h1.mono fun x s1 hq => ?_)
  cases x with
  | normal => exact h2 s1 hq
  | exit j =>
    simp only [blockKP]
    simp only [blockJK] at hq
    split
    · rename_i hj; rw [if_pos hj] at hq; exact h2 s1 hq
    · rename_i hj; rw [if_neg hj] at hq; exact hq
  | _ => exact hq
theorem blockJK.here {id : Nat} {J : PS → Prop} (h : J s) : blockJK id J Q (.exit id) s := by simp only [blockJK, if_true]; exact h
theorem blockJK.end {id : Nat} {J : PS → Prop} (h : J s) : blockJK id J Q .normal s := h
theorem blockJK.back {id : Nat} {J : PS → Prop} (h : Q .ret s) : blockJK id J Q .ret s := h
theorem blockJK.out {id j : Nat} {J : PS → Prop} (hj : j ≠ id) (h : Q (.exit j) s) : blockJK id J Q (.exit j) s := by simp only [blockJK, if_neg hj]; exact h

theorem retK {fn : Func} {Qf : PV → List PRow → List Nat → Prop} (hms : s.ms = []) (h : ∃ p, pResults P s fn.results.toList = some p ∧ Qf p s.fr s.tk) : retP P fn Qf .ret s := ⟨trivial, hms, h⟩
theorem retN {fn : Func} {Qf : PV → List PRow → List Nat → Prop} (hms : s.ms = []) (h : ∃ p, pResults P s fn.results.toList = some p ∧ Qf p s.fr s.tk) : retP P fn Qf .normal s := ⟨trivial, hms, h⟩
theorem PC.ret0 {z : Code} {s' : PS} (hw : Weak s s') (h : Q .ret s') : PC P O rnd (.seq .ret z) s Q := PC.weak hw (PC.ret h)
theorem PC.ret0' {s' : PS} (hw : Weak s s') (h : Q .ret s') : PC P O rnd .ret s Q := PC.weak hw (PC.ret' h)
end code

section ops
variable {rnd : Option Nat} {all os : List Oper} {s : PS} {Q : PS → Prop}
theorem PO.cut (n : Nat) (J : PS → Prop) (h1 : PO P O rnd all (os.take n) s J) (h2 : ∀ s1, J s1 → PO P O rnd all (os.drop n) s1 Q) : PO P O rnd all os s Q := fun C e a H hR => by
  obtain ⟨m, a1, H1, k1, e1, s1, k2, k3⟩ := h1 C e a H hR
  obtain ⟨m2, a2, H2, k4, k5⟩ := h2 s1 k3 C e1 a1 H1 k2
  refine ⟨max m m2, a2, H2, ?_, k5⟩
  rw [← List.take_append_drop n os]
  have key : ∀ (xs ys : List Oper) (a : AAct) (H : AH), aOps P (oRun P O (max m m2)) rnd all xs a H = .ok (a1, H1) → aOps P (oRun P O (max m m2)) rnd all ys a1 H1 = .ok (a2, H2) → aOps P (oRun P O (max m m2)) rnd all (xs ++ ys) a H = .ok (a2, H2) := by
    intro xs
    induction xs with
    | nil => intro ys a H h1 h2; simp only [aOps] at h1; cases h1; exact h2
    | cons o xs ih =>
      intro ys a H h1 h2
      simp only [List.cons_append, aOps] at h1 ⊢
      obtain ⟨b, b1, b2⟩ := bok h1
      rw [b1]
      cases b with
      | true =>
        simp only [if_true] at b2
        show (match deferOf o.op with | some c => _ | none => _) = _
        cases hd : deferOf o.op with
        | some c =>
          rw [hd] at b2
          simp only at b2 ⊢
          split at b2
          · cases b2
          · rename_i hr
            obtain ⟨d, d1, d2⟩ := bok b2
            obtain ⟨a', a1', a2'⟩ := bok d2
            rw [if_neg hr, d1]
            show ((AAct.put ⟨a.tm, a.n, d :: a.marks⟩ o.dst undef) >>= fun a' => aOps P (oRun P O (max m m2)) rnd all (xs ++ ys) a' H) = _
            rw [a1']
            exact ih ys a' H a2' h2
        | none =>
          rw [hd] at b2
          simp only at b2 ⊢
          obtain ⟨⟨v, Hv⟩, d1, d2⟩ := bok b2
          obtain ⟨a', a1', a2'⟩ := bok d2
          rw [d1]
          show ((a.put o.dst v) >>= fun a' => aOps P (oRun P O (max m m2)) rnd all (xs ++ ys) a' Hv) = _
          rw [a1']
          exact ih ys a' Hv a2' h2
      | false =>
        simp only [Bool.false_eq_true, if_false] at b2
        obtain ⟨a', a1', a2'⟩ := bok b2
        show ((a.put o.dst undef) >>= fun a' => aOps P (oRun P O (max m m2)) rnd all (xs ++ ys) a' H) = _
        rw [a1']
        exact ih ys a' H a2' h2
  exact key _ _ a H (ops_up (Nat.le_max_left m m2) k1) (ops_up (Nat.le_max_right m m2) k4)

/-- one of two ways, by a truth that a temporary holds -/
theorem PO.case {t : Nat} {b : Bool} (hcan : s.can (some t) = true) (ht : s.tm.get t = some (.val (.bool b))) (h1 : b = true → PO P O rnd all os (s.upd (some t) (.val (.bool true))) Q) (h2 : b = false → PO P O rnd all os (s.upd (some t) (.val (.bool false))) Q) : PO P O rnd all os s Q := fun C e a H hR => by
  have key : ∀ c, b = c → RelA C e (s.upd (some t) (.val (.bool c))) a H := fun c hc => by
    subst hc
    obtain ⟨v, h3, h4⟩ := hR.tm t _ ht
    obtain ⟨tm, n, fr, tk, r0, t0, ms⟩ := s
    refine ⟨hR.h, hR.n, hR.marks, hR.r0, hR.t0, fun u q hq => ?_⟩
    have hq' : (T.put AH.top tm t (.val (.bool b))).get u = some q := hq
    have hb : t + 1 < 2 ^ 48 := by
      replace hcan := (can_split hcan).2
      simp only [PS.can0] at hcan
      cases h1 : Nat.ble (Nat.succ t) n with
      | false => rw [h1] at hcan; cases hcan
      | true =>
        rw [h1] at hcan
        have h2 : Nat.ble n 281474976710654 = true := hcan
        rw [Nat.ble_eq] at h1 h2
        exact Nat.lt_of_le_of_lt (Nat.le_trans h1 h2) (by decide)
    · rw [show (T.put AH.top tm t (.val (.bool b))).get u = if u = t then some (.val (.bool b)) else tm.get u from T.get_put 48 _ _ _ _ hb] at hq'
      split at hq'
      · rename_i e1; cases hq'; subst e1; exact ⟨v, h3, h4⟩
      · exact hR.tm u q hq'
  cases b with
  | true => exact h1 rfl C e a H (key true rfl)
  | false => exact h2 rfl C e a H (key false rfl)
end ops

/-! ### Lifted functions -/
def bindI {α β : Type} (L : List α) (i : Int) (f : α → Option β) : Option β := if 0 ≤ i then (L[i.toNat]?).bind f else none
theorem bindI_some {α β : Type} {L : List α} {i : Int} {f : α → Option β} {r : β} (h : bindI L i f = some r) : ∃ y, 0 ≤ i ∧ L[i.toNat]? = some y ∧ f y = some r := by
  unfold bindI at h
  split at h
  · rename_i h0
    obtain ⟨y, h1, h2⟩ := Option.bind_eq_some_iff.1 h
    exact ⟨y, h0, h1, h2⟩
  · cases h
def bindS {α β : Type} (L : List α) (lo hi : Int) (f : List α → Option β) : Option β := if 0 ≤ lo ∧ lo ≤ hi ∧ hi ≤ L.length then f ((L.take hi.toNat).drop lo.toNat) else none
theorem bindS_some {α β : Type} {L : List α} {lo hi : Int} {f : List α → Option β} {r : β} (h : bindS L lo hi f = some r) : 0 ≤ lo ∧ lo ≤ hi ∧ hi ≤ L.length ∧ f ((L.take hi.toNat).drop lo.toNat) = some r := by
  unfold bindS at h
  split at h
  · rename_i h0; exact ⟨h0.1, h0.2.1, h0.2.2, h⟩
  · cases h
def bindA {α β : Type} (bytes : Nat) (L M : List α) (f : List α → Option β) : Option β := if (5 * (L.length + M.length) + 768) * bytes ≤ 1125899906842624 then f (L ++ M) else none
theorem bindA_some {α β : Type} {bytes : Nat} {L M : List α} {f : List α → Option β} {r : β} (h : bindA bytes L M f = some r) : (5 * (L.length + M.length) + 768) * bytes ≤ 1125899906842624 ∧ f (L ++ M) = some r := by
  unfold bindA at h
  split at h
  · rename_i h0; exact ⟨h0, h⟩
  · cases h
def bindD {β : Type} (n : Int) (f : Option β) : Option β := if n = 0 then none else f
theorem bindD_some {β : Type} {n : Int} {f : Option β} {r : β} (h : bindD n f = some r) : n ≠ 0 ∧ f = some r := by
  unfold bindD at h
  split at h
  · cases h
  · rename_i h0; exact ⟨h0, h⟩
theorem bif_t {α : Type} {b : Bool} (h : b = true) {x y : Option α} {r : α} (hF : (bif b then x else y) = some r) : x = some r := by subst h; exact hF
theorem bif_f {α : Type} {b : Bool} (h : b = false) {x y : Option α} {r : α} (hF : (bif b then x else y) = some r) : y = some r := by subst h; exact hF
theorem bind_some {α β : Type} {x : Option α} {f : α → Option β} {r : β} (h : x.bind f = some r) : ∃ y, x = some y ∧ f y = some r := Option.bind_eq_some_iff.1 h
theorem map_at {α β : Type} {L : List α} {f : α → β} {i : Nat} {y : α} (h : L[i]? = some y) : (L.map f)[i]? = some (f y) := by rw [List.getElem?_map, h]; rfl

end
end Go.Eng
