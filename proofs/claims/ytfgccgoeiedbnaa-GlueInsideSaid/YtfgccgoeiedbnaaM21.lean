/-
  What the proofs of loops over functions use.
-/
import Derived.Test.YtfgccgoeiedbnaaM20
set_option linter.unusedSimpArgs false
set_option linter.unusedVariables false
namespace Go.Eng
noncomputable section
variable {P : Program} {O : FuncId → Option Value}

def SelT (s : PS) : List (Nat × PV) → Prop
  | [] => True
  | (t, q) :: l => (∃ p, s.tm.get t = some p ∧ Less 0 0 p q) ∧ SelT s l
theorem SelT.at {s : PS} : ∀ {es : List (Nat × PV)} {t : Nat} {q : PV}, SelT s es → (t, q) ∈ es → ∃ p, s.tm.get t = some p ∧ Less 0 0 p q
  | (t', q') :: es, t, q, h, hm => by
    rcases List.mem_cons.1 hm with e1 | hm
    · cases e1; exact h.1
    · exact SelT.at h.2 hm

section
variable {s : PS} {d : Option Tmp} {ty : TypeId} {pst : String} {af : Array Edge} {gu : Option (Nat × Bool)}
end

section y
variable {C : Ctx} {l : Nat} {r : ALoop} {s : PS} {Q : Option Code → AX → PS → Prop} {p : Option Code} {z : Code}
end y

/-! ### Where a function that went through loops ends: the marks are taken off -/

theorem bindK {α β : Type} {x : Option α} {f : α → Option β} {r : β} {p : Prop} (h : Option.bind x f = some r) (k : ∀ a, x = some a → f a = some r → p) : p := let ⟨a, h1, h2⟩ := bind_some h; k a h1 h2
theorem bindIK {α β : Type} {L : List α} {i : Int} {f : α → Option β} {r : β} {p : Prop} (h : bindI L i f = some r) (k : ∀ y, 0 ≤ i → L[i.toNat]? = some y → f y = some r → p) : p := let ⟨y, h0, h1, h2⟩ := bindI_some h; k y h0 h1 h2
theorem bindAK {α β : Type} {n : Nat} {L M : List α} {f : List α → Option β} {r : β} {p : Prop} (h : bindA n L M f = some r) (k : (5 * (L.length + M.length) + 768) * n ≤ 1125899906842624 → f (L ++ M) = some r → p) : p := let ⟨h1, h2⟩ := bindA_some h; k h1 h2
theorem bindSK {α β : Type} {L : List α} {lo hi : Int} {f : List α → Option β} {r : β} {p : Prop} (h : bindS L lo hi f = some r) (k : 0 ≤ lo → lo ≤ hi → hi ≤ L.length → f ((L.take hi.toNat).drop lo.toNat) = some r → p) : p := let ⟨h0, h1, h2, h3⟩ := bindS_some h; k h0 h1 h2 h3
theorem bindDK {β : Type} {n : Int} {f : Option β} {r : β} {p : Prop} (h : bindD n f = some r) (k : n ≠ 0 → f = some r → p) : p := let ⟨h0, h1⟩ := bindD_some h; k h0 h1
end
end Go.Eng
