/-
  More fuel changes no answer of the abstract machine.
-/
import Derived.Test.YtjobmgleekphjaaE17
set_option linter.unusedSimpArgs false
namespace Go.Eng
noncomputable section
variable {P : Program}

/-- whatever the one answers, the other answers too -/
def RLe (rec rec' : Rec) : Prop := ∀ q H x, rec q H = .ok x → rec' q H = .ok x

theorem bmono {α β : Type} {x x' : R α} {f f' : α → R β} {y : β} (h : (x >>= f) = .ok y) (h1 : ∀ a, x = .ok a → x' = .ok a) (h2 : ∀ a, f a = .ok y → f' a = .ok y) : (x' >>= f') = .ok y := by
  obtain ⟨a, e1, e2⟩ := bok h
  rw [h1 a e1]
  exact h2 a e2

theorem aOp_mono {rec rec' : Rec} (hr : RLe rec rec') {a : AAct} {H : AH} {o : Oper} {x : Value × AH} (h : aOp P rec a H o = .ok x) : aOp P rec' a H o = .ok x := by
  obtain ⟨d, op, ty, ps, af, gu⟩ := o
  cases op <;> first | exact h | skip
  case makeFunc fn first cap => cases fn <;> exact h
  case makeMap t x => cases x <;> exact h
  rename_i c
  obtain ⟨cal, args, ats⟩ := c
  cases cal with
  | builtin b => cases b <;> exact h
  | invoke rcv name =>
    simp only [aOp] at h ⊢
    refine bmono h (fun _ e => e) (fun vs h => bmono h (fun _ e => e) (fun v h => ?_))
    split at h
    · refine bmono h (fun _ e => e) (fun f h => bmono h (fun a e => hr _ _ _ e) (fun r h => h))
    · cases h
  | value f =>
    simp only [aOp] at h ⊢
    refine bmono h (fun _ e => e) (fun vs h => bmono h (fun _ e => e) (fun v h => ?_))
    split at h
    · exact bmono h (fun a e => hr _ _ _ e) (fun r h => h)
    · split at h
      · split at h
        · cases h
        · rename_i hlen
          rw [if_neg hlen]
          split at h
          · refine bmono h (fun _ e => e) (fun act h => bmono h (fun a e => hr _ _ _ e) (fun r h => ?_))
            split at h
            · split at h
              · split at h
                · cases h
                · rename_i hst
                  rw [if_neg hst]
                  exact bmono h (fun a e => hr _ _ _ e) (fun r h => h)
              · cases h
            · cases h
          · cases h
      · cases h
    · cases h

theorem aOps_mono {rec rec' : Rec} (hr : RLe rec rec') {rnd : Option Nat} {all : List Oper} : ∀ (os : List Oper) (a : AAct) (H : AH) (x : AAct × AH), aOps P rec rnd all os a H = .ok x → aOps P rec' rnd all os a H = .ok x
  | [], _, _, _, h => h
  | o :: os, a, H, x, h => by
    simp only [aOps] at h ⊢
    refine bmono h (fun _ e => e) (fun b h => ?_)
    cases b with
    | true =>
      simp only [if_true] at h ⊢
      cases hd : deferOf o.op with
      | some c =>
        simp only [hd] at h ⊢
        split at h
        · cases h
        · rename_i hb
          rw [if_neg hb]
          exact bmono h (fun _ e => e) (fun d h => bmono h (fun _ e => e) (fun a1 h => aOps_mono hr os _ _ _ h))
      | none =>
        simp only [hd] at h ⊢
        exact bmono h (fun r e => aOp_mono hr e) (fun r h => bmono h (fun _ e => e) (fun a1 h => aOps_mono hr os _ _ _ h))
    | false =>
      simp only [Bool.false_eq_true, if_false] at h ⊢
      exact bmono h (fun _ e => e) (fun a1 h => aOps_mono hr os _ _ _ h)

theorem aDo_mono {rec rec' : Rec} (hr : RLe rec rec') {os : List Oper} {a : AAct} {H : AH} {o : Oper} {x : Value × AH} (h : aDo P rec os a H o = .ok x) : aDo P rec' os a H o = .ok x := by
  unfold aDo at h ⊢
  refine bmono h (fun _ e => e) (fun b h => ?_)
  cases b with
  | true => exact aOp_mono hr h
  | false => exact h

theorem sameBack_mono {rec rec' : Rec} (hr : RLe rec rec') {os : List Oper} {pn : List Pend} {a : AAct} {o : Oper} {v : Value} {c : Nat} : ∀ l : List (Nat × PM), sameBack P rec os pn a o v c l = true → sameBack P rec' os pn a o v c l = true
  | [], h => h
  | (j, H) :: l, h => by
    simp only [sameBack] at h ⊢
    split at h
    · rename_i hb; rw [if_pos hb]
    · rename_i hb
      rw [if_neg hb]
      rw [Bool.and_eq_true] at h ⊢
      refine ⟨?_, sameBack_mono hr l h.2⟩
      have h1 := h.1
      split at h1
      · rename_i u H1 hd
        rw [aDo_mono hr hd]
        exact h1
      · cases h1

theorem dStep_mono {rec rec' : Rec} (hr : RLe rec rec') {os : List Oper} {cl : List Nat} {pn : List Pend} {s s' : DS} {j : Nat} (h : dStep P rec os cl pn s j = .ok s') : dStep P rec' os cl pn s j = .ok s' := by
  unfold dStep at h ⊢
  split at h
  · cases h
  · split at h
    · cases h
    rename_i h1
    rw [if_neg h1]
    split at h
    · cases h
    rename_i h2
    rw [if_neg h2]
    split at h
    · exact h
    · cases h
    refine bmono h (fun r e => aDo_mono hr e) (fun r h => bmono h (fun _ e => e) (fun a1 h => ?_))
    split at h
    · rename_i hp
      rw [if_pos hp]
      exact h
    · rename_i hp
      rw [if_neg hp]
      split at h
      · rename_i hq
        rw [if_pos hq]
        split at h
        · rename_i hs
          rw [if_pos (sameBack_mono hr _ hs)]
          exact h
        · cases h
      · rename_i hq
        rw [if_neg hq]
        exact h

theorem foldlM_mono {α β : Type} {f g : α → β → R α} (hfg : ∀ a b c, f a b = .ok c → g a b = .ok c) : ∀ (l : List β) (s s' : α), l.foldlM f s = .ok s' → l.foldlM g s = .ok s'
  | [], _, _, h => h
  | x :: l, s, s', h => by
    simp only [List.foldlM_cons] at h ⊢
    exact bmono h (fun a e => hfg _ _ _ e) (fun a h => foldlM_mono hfg l a s' h)

theorem aDraw_mono {rec rec' : Rec} (hr : RLe rec rec') {os : List Oper} {a : AAct} {H : AH} {x : AAct × AH} (h : aDraw P rec os a H = .ok x) : aDraw P rec' os a H = .ok x := by
  unfold aDraw at h ⊢
  simp only at h ⊢
  split at h
  · rename_i ht
    rw [if_pos ht]
    exact bmono h (fun _ e => e) (fun pn h => bmono h (fun s e => foldlM_mono (fun _ _ _ e => dStep_mono hr e) _ _ _ e) (fun s h => h))
  · cases h

theorem aLeave_mono {rec rec' : Rec} (hr : RLe rec rec') : ∀ (ms : List ADef) (H H1 : AH), aLeave P rec ms H = .ok H1 → aLeave P rec' ms H = .ok H1
  | [], _, _, h => h
  | .mark m :: ms, H, H1, h => by
    simp only [aLeave] at h ⊢
    split at h
    · exact aLeave_mono hr ms _ _ h
    · cases h
  | .call f args :: ms, H, H1, h => by
    simp only [aLeave] at h ⊢
    refine bmono h (fun _ e => e) (fun b h => bmono h (fun r e => hr _ _ _ e) (fun r h => ?_))
    split at h
    · split at h
      · rename_i hm
        rw [if_pos hm]
        exact bmono h (fun _ e => e) (fun _ h => aLeave_mono hr ms _ _ h)
      · cases h
    · split at h
      · rename_i hm
        rw [if_pos hm]
        exact bmono h (fun _ e => e) (fun _ h => aLeave_mono hr ms _ _ h)
      · cases h
    · cases h

theorem aStep_mono {rec rec' : Rec} (hr : RLe rec rec') : RLe (aStep P rec) (aStep P rec') := by
  intro q H x h
  cases q with
  | call f args =>
    simp only [aStep] at h ⊢
    refine bmono h (fun _ e => e) (fun b h => bmono h (fun r e => hr _ _ _ e) (fun r h => ?_))
    split at h
    · exact bmono h (fun H e => aLeave_mono hr _ _ _ e) (fun _ h => h)
    · exact bmono h (fun H e => aLeave_mono hr _ _ _ e) (fun _ h => h)
    · cases h
  | code rnd c a =>
    cases c with
    | skip => exact h
    | label l => exact h
    | ret => exact h
    | exit id => exact h
    | goto l => exact h
    | seq c1 c2 =>
      simp only [aStep] at h ⊢
      refine bmono h (fun r e => hr _ _ _ e) (fun r h => ?_)
      obtain ⟨res, H1⟩ := r
      cases res with
      | val v => exact h
      | out x1 a1 =>
        cases x1 with
        | normal => exact hr _ _ _ h
        | exit id => exact h
        | goto l => exact h
        | ret => exact h
    | cond o c1 c2 =>
      simp only [aStep] at h ⊢
      refine bmono h (fun _ e => e) (fun v h => ?_)
      split at h
      · exact hr _ _ _ h
      · cases h
    | block id c1 =>
      simp only [aStep] at h ⊢
      exact bmono h (fun r e => hr _ _ _ e) (fun r h => h)
    | loop c1 =>
      simp only [aStep] at h ⊢
      refine bmono h (fun r e => hr _ _ _ e) (fun r h => ?_)
      obtain ⟨res, H1⟩ := r
      cases res with
      | val v => exact h
      | out x1 a1 =>
        cases x1 with
        | normal => exact hr _ _ _ h
        | exit id => exact h
        | goto l => exact h
        | ret => exact h
    | region id ops draw =>
      cases draw with
      | false =>
        simp only [aStep] at h ⊢
        exact bmono h (fun r e => aOps_mono hr _ _ _ _ e) (fun r h => h)
      | true =>
        simp only [aStep] at h ⊢
        split at h
        · cases h
        rename_i hf
        rw [if_neg hf]
        exact bmono h (fun r e => aDraw_mono hr e) (fun r h => h)
    | rangeFunc g params assign body =>
      simp only [aStep] at h ⊢
      refine bmono h (fun _ e => e) (fun m h => bmono h (fun _ e => e) (fun l h => bmono h (fun _ e => e) (fun gv h => ?_)))
      split at h
      · refine bmono h (fun r e => hr _ _ _ e) (fun r h => ?_)
        split at h
        · split at h
          · split at h
            · cases h
            · rename_i hb
              rw [if_neg hb]
              split at h
              · exact h
              · exact hr _ _ _ h
          · cases h
        · cases h
      · cases h
    | _ => simp only [aStep] at h; cases h

theorem aRun_mono : ∀ n, RLe (aRun P n) (aRun P (n + 1))
  | 0 => fun q H x h => by simp only [aRun] at h; cases h
  | n + 1 => aStep_mono (aRun_mono n)

theorem aRun_le {n m : Nat} (h : n ≤ m) : RLe (aRun P n) (aRun P m) := by
  obtain ⟨d, rfl⟩ : ∃ d, m = n + d := ⟨m - n, by omega⟩
  induction d with
  | zero => exact fun _ _ _ h => h
  | succ d ih => exact fun q H x hx => aRun_mono (n + d) q H x (ih (by omega) q H x hx)

end
end Go.Eng
