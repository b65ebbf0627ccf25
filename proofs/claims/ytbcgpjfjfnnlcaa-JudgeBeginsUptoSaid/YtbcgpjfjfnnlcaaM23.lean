/-
  Bytes laid behind a list of one's own: room is made by an append of zeros, and then it is written over.
-/
import Derived.Test.YtbcgpjfjfnnlcaaM22
set_option linter.unusedSimpArgs false
set_option linter.unusedVariables false
namespace Go.Eng
noncomputable section
variable {P : Program} {O : Orc} {e e' : Env} {fr fr' : List PRow} {tk tk' : List Nat} {H H' H'' : AH}

/-! ### Memories that read alike -/
structure AH.Same (H H' : AH) : Prop where
  get : ∀ j, H'.get j = H.get j
  next : H'.next = H.next

theorem Dim.blur {H1 : AH} {fam lo hi : Nat} (h : Dim H H1 fam lo) : Dim H (H1.blur fam lo hi) fam lo := by
  refine ⟨h.nx, fun j o ho hn => ?_, fun j o ho => ?_, fun j r0 h0 => ?_⟩
  · rw [AH.get_blur, h.oth j o ho hn]
    cases o with
    | row r => exact absurd rfl (hn r)
    | _ => rfl
  · rw [AH.get_blur] at ho
    cases h1 : H1.get j with
    | none => rw [h1] at ho; cases ho
    | some o1 =>
      rw [h1] at ho
      simp only [Option.map_some, Option.some.injEq] at ho
      obtain ⟨o', k1, k2, k3⟩ := h.back j o1 h1
      refine ⟨o', k1, fun hn => ?_, fun r' e1 => ?_⟩
      · have e2 := k2 hn
        subst e2
        rw [← ho]
        cases o' with
        | row r => exact absurd rfl (hn r)
        | _ => rfl
      · subst e1
        cases o1 with
        | row r1 =>
          obtain ⟨r0, e3, e4⟩ := k3 r1 rfl
          refine ⟨r0, e3, ?_⟩
          simp only [AO.blur] at ho
          split at ho <;> (cases ho; exact e4)
        | _ => cases ho
  · obtain ⟨r', k1, k2, k3, k4⟩ := h.row j r0 h0
    rw [AH.get_blur, k1]
    simp only [Option.map_some, AO.blur]
    split
    · rename_i hf
      refine ⟨_, rfl, ⟨k2.ty, k2.fam, k2.disp, k2.esz, k2.ro, (Row.length_blur _ _ _).trans k2.len⟩, fun hn => absurd (k2.fam.symm.trans hf) hn, fun p hp => ?_⟩
      rw [Row.get_blur, ← k4 p hp]
      cases r'.cells[p]? with
      | none => rfl
      | some c => simp only [Option.map_some]; rw [if_neg (by rw [k2.disp]; omega)]
    · exact ⟨r', rfl, k2, k3, k4⟩

/-! ### A text's bytes -/

/-! ### The walk -/
structure KA (a : AAct) (n : Nat) (g : Nat → Option Value) : Prop where
  n : a.n = n
  ms : a.marks = []
  tm : ∀ t v, g t = some v → a.tm.get t = some v
theorem KA.put {a : AAct} {n : Nat} {g : Nat → Option Value} (h : KA a n g) {d : Nat} (hd : Nat.ble (Nat.succ d) n = true) (hn : Nat.ble n 281474976710654 = true) (v : Value) : KA (a.upd (some d) v) n (fun t => if t = d then some v else g t) :=
  ⟨h.n, h.ms, fun t w hw => by
    rw [Nat.ble_eq] at hd hn
    show (T.put AH.top a.tm d v).get t = _
    rw [show (T.put AH.top a.tm d v).get t = if t = d then some v else a.tm.get t from T.get_put 48 _ _ _ _ (by have : 2 ^ 48 = 281474976710656 := rfl; omega)]
    replace hw : (if t = d then some v else g t) = some w := hw
    split at hw
    · rename_i e1; rw [if_pos e1]; exact hw
    · rename_i e1; rw [if_neg e1]; exact h.tm t w hw⟩
theorem KA.can {a : AAct} {n : Nat} {g : Nat → Option Value} (h : KA a n g) {d : Nat} (hd : Nat.ble (Nat.succ d) n = true) (hn : Nat.ble n 281474976710654 = true) : a.can (some d) = true := by
  unfold AAct.can
  simp only [h.n, hd]
  exact hn
theorem KA.eval {a : AAct} {n : Nat} {g : Nat → Option Value} (h : KA a n g) {t : Nat} {v : Value} (hv : g t = some v) : a.eval (.tmp t) = .ok v := AAct.ev_eval (h.tm t v hv)

end
end Go.Eng
