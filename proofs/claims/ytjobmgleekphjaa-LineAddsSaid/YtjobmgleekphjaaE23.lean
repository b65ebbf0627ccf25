/-
  Where paths meet: what is known of an activation's temporaries, and their places as a term again.
-/
import Derived.Test.YtjobmgleekphjaaE22
set_option linter.unusedVariables false
namespace Go.Eng
noncomputable section

def Good : Nat → T Value → Prop
  | 0, _ => True
  | k + 1, t => ∃ v l r, t = T.node v l r ∧ Good k l ∧ Good k r

theorem Good.full : ∀ k, Good k (T.full k)
  | 0 => trivial
  | k + 1 => ⟨none, T.full k, T.full k, rfl, Good.full k, Good.full k⟩

theorem Good.put {n : Nat} : ∀ {k : Nat} {t : T Value}, Good k t → ∀ (d : Nat) (v : Value), Good k (T.put n t d v)
  | 0, _, _, _, _ => trivial
  | k + 1, _, ⟨x, l, r, rfl, hl, hr⟩, d, v => by
    rw [T.put_node]
    split
    · exact ⟨_, _, _, rfl, hl, hr⟩
    · split
      · exact ⟨_, _, _, rfl, hl.put _ _, hr⟩
      · exact ⟨_, _, _, rfl, hl, hr.put _ _⟩

theorem Good.start {n : Nat} {vs : List Value} : Good 10 (startAct n vs).tm := by
  unfold startAct
  have key : ∀ (l : List (Value × Nat)) (t : T Value), Good 10 t → Good 10 (l.foldl (fun t (p : Value × Nat) => T.put AH.top t p.2 p.1) t) := by
    intro l
    induction l with
    | nil => intro t h; exact h
    | cons p l ih => intro t h; exact ih _ (h.put _ _)
  exact key _ _ (Good.full 10)

theorem Good.upd {a : AAct} (h : Good 10 a.tm) (d : Option Tmp) (v : Value) : Good 10 (a.upd d v).tm := by
  obtain ⟨tm, n, ms⟩ := a
  cases d with
  | none => exact h
  | some d => exact Good.put h d v

theorem Good.less : ∀ {k : Nat} {t : T Value}, Good (k + 1) t → Good k t
  | 0, _, _ => trivial
  | k + 1, _, ⟨x, l, r, h, hl, hr⟩ => ⟨x, l, r, h, Good.less hl, Good.less hr⟩

end
end Go.Eng
