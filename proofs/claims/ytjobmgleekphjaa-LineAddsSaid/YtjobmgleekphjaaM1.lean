/-
  Values without a place: what a run's values stand for, and what keeps it so.
-/
import Derived.Test.YtjobmgleekphjaaE22
set_option linter.unusedSimpArgs false
set_option linter.unusedVariables false
namespace Go.Eng
noncomputable section

/-! ### Lists, place by place -/
def L2 {α β : Type} (R : α → β → Prop) (l : List α) (m : List β) : Prop := l.length = m.length ∧ ∀ (i : Nat) (x : α) (y : β), l[i]? = some x → m[i]? = some y → R x y

theorem get_of_lt {α : Type} {l : List α} {i : Nat} (h : i < l.length) : ∃ x, l[i]? = some x := ⟨l[i], List.getElem?_eq_getElem h⟩

section l2
variable {α β : Type} {R S : α → β → Prop}
theorem L2.nil : L2 R [] [] := ⟨rfl, fun i x y h => by simp at h⟩
theorem L2.cons {x : α} {y : β} {l : List α} {m : List β} (h : R x y) (hl : L2 R l m) : L2 R (x :: l) (y :: m) :=
  ⟨by simp [hl.1], fun i a b ha hb => by
    cases i with
    | zero => simp at ha hb; subst ha; subst hb; exact h
    | succ i => exact hl.2 i a b (by simpa using ha) (by simpa using hb)⟩
theorem L2.mono {l : List α} {m : List β} (h : L2 R l m) (hs : ∀ x y, R x y → S x y) : L2 S l m := ⟨h.1, fun i x y hx hy => hs _ _ (h.2 i x y hx hy)⟩
theorem L2.at {l : List α} {m : List β} (h : L2 R l m) {i : Nat} {x : α} (hx : l[i]? = some x) : ∃ y, m[i]? = some y ∧ R x y := by
  obtain ⟨y, hy⟩ := get_of_lt (l := m) (i := i) (by rw [← h.1]; exact lt_of_get hx)
  exact ⟨y, hy, h.2 i x y hx hy⟩
theorem L2.append {l l' : List α} {m m' : List β} (h : L2 R l m) (h' : L2 R l' m') : L2 R (l ++ l') (m ++ m') :=
  ⟨by simp [h.1, h'.1], fun i x y hx hy => by
    by_cases hi : i < l.length
    · rw [List.getElem?_append_left hi] at hx
      rw [List.getElem?_append_left (by rw [← h.1]; exact hi)] at hy
      exact h.2 i x y hx hy
    · rw [List.getElem?_append_right (by omega)] at hx
      rw [List.getElem?_append_right (by rw [← h.1]; omega), ← h.1] at hy
      exact h'.2 _ x y hx hy⟩
theorem L2.take {l : List α} {m : List β} (h : L2 R l m) (n : Nat) : L2 R (l.take n) (m.take n) :=
  ⟨by simp [h.1], fun i x y hx hy => by
    rw [List.getElem?_take] at hx hy
    split at hx
    · rename_i hi; rw [if_pos hi] at hy; exact h.2 i x y hx hy
    · cases hx⟩
theorem L2.drop {l : List α} {m : List β} (h : L2 R l m) (n : Nat) : L2 R (l.drop n) (m.drop n) :=
  ⟨by simp [h.1], fun i x y hx hy => by
    rw [List.getElem?_drop] at hx hy
    exact h.2 _ x y hx hy⟩
theorem L2.cases_cons {x : α} {l : List α} {m : List β} (h : L2 R (x :: l) m) : ∃ y m', m = y :: m' ∧ R x y ∧ L2 R l m' := by
  cases m with
  | nil => have := h.1; simp at this
  | cons y m' =>
    refine ⟨y, m', rfl, h.2 0 x y rfl rfl, by have := h.1; simpa using this, fun i a b ha hb => h.2 (i + 1) a b (by simpa using ha) (by simpa using hb)⟩
theorem L2.cases_nil {m : List β} (h : L2 R [] m) : m = [] := by
  cases m with
  | nil => rfl
  | cons y m' => have := h.1; simp at this
end l2

/-! ### Values without a place -/
inductive PV where
  | val (v : Value)
  | agg (l : List PV)
  | tup (l : List PV)
  | list (sz : Nat) (l : List (List PV)) (t : Option Nat)
  | ptr (k off : Nat)
  | eptr (cells : List PV) (off : Nat)
  | sl (k off n c : Nat)
  | fn (f : FuncId) (first cap : List PV)
  | iface (t : TypeId) (v : PV)

def PV.cells : PV → List PV
  | .agg l => l
  | p => [p]

def PV.plain : PV → Bool
  | .val v => plainCell v
  | .agg _ => false
  | .tup _ => false
  | _ => true

/-- a row's cells in the machine: a family that may grow, from a place on -/
structure Tk where
  fam : Nat
  base : Nat
  esz : Nat

structure Env where
  rows : List Nat
  toks : List (Option Tk)
  X : Nat → Nat → Nat → Prop

/-- a row whose cells ahead of a place stay as they are -/
structure Stay (e : Env) (tk : List Nat) (H : AH) (id fam en : Nat) : Prop where
  lt : id < H.next
  flt : fam < H.next
  x : e.X id fam en
  row : id ∉ e.rows
  tok : ∀ (t : Nat) (τ : Tk) (n : Nat), e.toks[t]? = some (some τ) → tk[t]? = some n → fam = τ.fam → en ≤ τ.base + n * τ.esz

/-- a list that may grow: where the family ends there -/
def Linked (e : Env) (tk : List Nat) (sz : Nat) (r : Row) (off len c : Nat) (k : Nat) : Prop :=
  ∃ n, tk[k]? = some n ∧ len ≤ n ∧ (len = n → ∃ τ, e.toks[k]? = some (some τ) ∧ r.fam = τ.fam ∧ r.disp + off = τ.base ∧ sz = τ.esz ∧ r.ro = false ∧ c = len)
def NilLinked (e : Env) (tk : List Nat) (k : Nat) : Prop :=
  ∃ n, tk[k]? = some n ∧ (0 = n → e.toks[k]? = some none)

inductive RV (e : Env) (tk : List Nat) (H : AH) : Bool → PV → Value → Prop
  | val {b : Bool} {v : Value} (hv : plainCell v = true) : RV e tk H b (.val v) v
  | agg {b : Bool} {l : List PV} {vs : List Value} (hl : l.length = vs.length) (h : ∀ (i : Nat) (p : PV) (v : Value), l[i]? = some p → vs[i]? = some v → RV e tk H b p v) : RV e tk H b (.agg l) (.agg vs.toArray)
  | tup {b : Bool} {l : List PV} {vs : List Value} (hl : l.length = vs.length) (h : ∀ (i : Nat) (p : PV) (v : Value), l[i]? = some p → vs[i]? = some v → RV e tk H b p v) : RV e tk H b (.tup l) (.tuple vs.toArray)
  | lnil {b : Bool} {sz : Nat} {t : Option Nat} (ht : ∀ k, t = some k → b = true ∧ NilLinked e tk k) : RV e tk H b (.list sz [] t) (.slice none 0 0)
  | list {b : Bool} {sz : Nat} {l : List (List PV)} {t : Option Nat} {id off c n : Nat} {r : Row} (w : Nat → Nat → Value) (hr : H.get id = some (.row r)) (hn : off + l.length * sz ≤ n) (hs : Stay e tk H id r.fam (r.disp + n))
      (he : r.esz = sz) (hc : l.length ≤ c) (hw : off + l.length * sz ≤ r.cells.length) (hz : ∀ (i : Nat) (cs : List PV), l[i]? = some cs → cs.length = sz) (hp : ∀ (i : Nat) (cs : List PV) (j : Nat) (p : PV), l[i]? = some cs → cs[j]? = some p → p.plain = true)
      (hv : ∀ (i : Nat) (cs : List PV) (j : Nat) (p : PV), l[i]? = some cs → cs[j]? = some p → r.cells[off + i * sz + j]? = some (some (w i j)))
      (h : ∀ (i : Nat) (cs : List PV) (j : Nat) (p : PV), l[i]? = some cs → cs[j]? = some p → RV e tk H false p (w i j))
      (ht : ∀ k, t = some k → b = true ∧ Linked e tk sz r off l.length c k) : RV e tk H b (.list sz l t) (.slice (some ⟨id, off, none⟩) l.length c)
  | ptr {k off id : Nat} (hk : e.rows[k]? = some id) : RV e tk H true (.ptr k off) (.pointer (some ⟨id, off, none⟩))
  | sl {k off n c id : Nat} (hk : e.rows[k]? = some id) : RV e tk H true (.sl k off n c) (.slice (some ⟨id, off, none⟩) n c)
  | eptr {b : Bool} {cells : List PV} {off id base n : Nat} {r : Row} (w : Nat → Value) (hr : H.get id = some (.row r)) (hn : base + cells.length ≤ n) (hs : Stay e tk H id r.fam (r.disp + n))
      (hv : ∀ (j : Nat) (p : PV), cells[j]? = some p → r.cells[base + j]? = some (some (w j))) (h : ∀ (j : Nat) (p : PV), cells[j]? = some p → RV e tk H false p (w j)) : RV e tk H b (.eptr cells off) (.pointer (some ⟨id, base + off, none⟩))
  | fn {b : Bool} {f : FuncId} {l m : List PV} {vs ws : List Value} (hl : l.length = vs.length) (h : ∀ (i : Nat) (p : PV) (v : Value), l[i]? = some p → vs[i]? = some v → RV e tk H b p v)
      (hm : m.length = ws.length) (h' : ∀ (i : Nat) (p : PV) (v : Value), m[i]? = some p → ws[i]? = some v → RV e tk H b p v) : RV e tk H b (.fn f l m) (.func (.func f) vs.toArray ws.toArray)
  | iface {b : Bool} {t : TypeId} {p : PV} {v : Value} (h : RV e tk H b p v) : RV e tk H b (.iface t p) (.iface t v)

theorem RV.up {e : Env} {tk : List Nat} {H : AH} {b b' : Bool} {p : PV} {v : Value} (h : RV e tk H b p v) (hb : b = true → b' = true) : RV e tk H b' p v := by
  induction h with
  | val hv => exact .val hv
  | agg hl _ ih => exact .agg hl (fun i p v hi hv => ih i p v hi hv hb)
  | tup hl _ ih => exact .tup hl (fun i p v hi hv => ih i p v hi hv hb)
  | lnil ht => exact .lnil fun k hk => ⟨hb (ht k hk).1, (ht k hk).2⟩
  | list w hr hn hs he hc hw hz hp hv h ht => exact .list w hr hn hs he hc hw hz hp hv h fun k hk => ⟨hb (ht k hk).1, (ht k hk).2⟩
  | ptr hk => rw [hb rfl]; exact .ptr hk
  | sl hk => rw [hb rfl]; exact .sl hk
  | eptr w hr hn hs hv h => exact .eptr w hr hn hs hv h
  | fn hl _ hm _ ih ih' => exact .fn hl (fun i p v hi hv => ih i p v hi hv hb) hm (fun i p v hi hv => ih' i p v hi hv hb)
  | iface _ ih => exact .iface (ih hb)

theorem RV.top {e : Env} {tk : List Nat} {H : AH} {b : Bool} {p : PV} {v : Value} (h : RV e tk H b p v) : RV e tk H true p v := h.up fun _ => rfl

theorem plain_of {e : Env} {tk : List Nat} {H : AH} {b : Bool} {p : PV} {v : Value} (h : RV e tk H b p v) (hp : p.plain = true) : plainCell v = true := by
  cases h <;> first | assumption | rfl | (cases hp)

theorem RV.cells {e : Env} {tk : List Nat} {H : AH} {b : Bool} {p : PV} {v : Value} (h : RV e tk H b p v) : L2 (RV e tk H b) p.cells v.cells.toList := by
  cases h with
  | agg hl h => exact ⟨by simpa [PV.cells, Value.cells] using hl, fun i x y hx hy => h i x y hx (by simpa [Value.cells] using hy)⟩
  | val hv =>
    cases v with
    | agg cs => cases hv
    | tuple cs => cases hv
    | _ => exact L2.cons (.val rfl) L2.nil
  | tup hl h => exact L2.cons (.tup hl h) L2.nil
  | lnil ht => exact L2.cons (.lnil ht) L2.nil
  | list w hr hn hs he hc hw hz hp hv h ht => exact L2.cons (.list w hr hn hs he hc hw hz hp hv h ht) L2.nil
  | ptr hk => exact L2.cons (.ptr hk) L2.nil
  | sl hk => exact L2.cons (.sl hk) L2.nil
  | eptr w hr hn hs hv h => exact L2.cons (.eptr w hr hn hs hv h) L2.nil
  | fn hl h hm h' => exact L2.cons (.fn hl h hm h') L2.nil
  | iface h => exact L2.cons (.iface h) L2.nil

end
end Go.Eng
