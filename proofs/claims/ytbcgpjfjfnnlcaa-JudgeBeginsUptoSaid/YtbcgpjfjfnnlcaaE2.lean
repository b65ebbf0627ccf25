/-
  What it means that the abstract machine's memory goes along with the given one; what keeps it.
-/
import Derived.Test.YtbcgpjfjfnnlcaaE1
import Derived.Laws.World
import Derived.WalkKit
namespace Go.Eng
noncomputable section

/-! ### The map from numbers -/
section trie
variable {α β : Type}

theorem T.get_node (v : Option α) (l r : T α) (k : Nat) : (T.node v l r).get k = if k = 0 then v else if k % 2 = 1 then l.get (k / 2) else r.get (k / 2 - 1) := by
  show pick (Nat.beq k 0) v (pick (Nat.beq (k % 2) 1) (l.get (k / 2)) (r.get (k / 2 - 1))) = _
  by_cases h : k = 0
  · subst h; rfl
  · have h0 : Nat.beq k 0 = false := by rw [← Bool.not_eq_true, Nat.beq_eq]; exact h
    rw [h0, if_neg h]
    by_cases h1 : k % 2 = 1
    · rw [if_pos h1, h1]; rfl
    · have h2 : Nat.beq (k % 2) 1 = false := by rw [← Bool.not_eq_true, Nat.beq_eq]; exact h1
      rw [h2, if_neg h1]; rfl

theorem T.put_node (n : Nat) (v : Option α) (l r : T α) (k : Nat) (x : α) : T.put n (T.node v l r) k x = if k = 0 then .node (some x) l r else if k % 2 = 1 then .node v (T.put n l (k / 2) x) r else .node v l (T.put n r (k / 2 - 1) x) := by
  show pick (Nat.beq k 0) (T.node (some x) l r) (pick (Nat.beq (k % 2) 1) (T.node v (T.put n l (k / 2) x) r) (T.node v l (T.put n r (k / 2 - 1) x))) = _
  by_cases h : k = 0
  · subst h; rfl
  · have h0 : Nat.beq k 0 = false := by rw [← Bool.not_eq_true, Nat.beq_eq]; exact h
    rw [h0, if_neg h]
    by_cases h1 : k % 2 = 1
    · rw [if_pos h1, h1]; rfl
    · have h2 : Nat.beq (k % 2) 1 = false := by rw [← Bool.not_eq_true, Nat.beq_eq]; exact h1
      rw [h2, if_neg h1]; rfl

theorem T.one_succ (n k : Nat) (x : α) : T.one (n + 1) k x = if k = 0 then .node (some x) .nil .nil else if k % 2 = 1 then .node none (T.one n (k / 2) x) .nil else .node none .nil (T.one n (k / 2 - 1) x) := by
  show pick (Nat.beq k 0) (T.node (some x) .nil .nil) (pick (Nat.beq (k % 2) 1) (T.node none (T.one n (k / 2) x) .nil) (T.node none .nil (T.one n (k / 2 - 1) x))) = _
  by_cases h : k = 0
  · subst h; rfl
  · have h0 : Nat.beq k 0 = false := by rw [← Bool.not_eq_true, Nat.beq_eq]; exact h
    rw [h0, if_neg h]
    by_cases h1 : k % 2 = 1
    · rw [if_pos h1, h1]; rfl
    · have h2 : Nat.beq (k % 2) 1 = false := by rw [← Bool.not_eq_true, Nat.beq_eq]; exact h1
      rw [h2, if_neg h1]; rfl

theorem T.get_nil (k : Nat) : (T.nil : T α).get k = none := rfl

theorem T.get_one : ∀ (n k : Nat) (x : α) (j : Nat), k + 1 < 2 ^ n → (T.one n k x).get j = if j = k then some x else none := by
  intro n
  induction n with
  | zero => intro k x j h; simp at h
  | succ n ih =>
    intro k x j h
    have hp : 2 ^ (n + 1) = 2 * 2 ^ n := by rw [Nat.pow_succ]; omega
    rw [T.one_succ]
    by_cases h0 : k = 0
    · subst h0
      rw [if_pos rfl, T.get_node]
      by_cases hj : j = 0
      · simp [hj]
      · simp [hj, T.get_nil]
    · rw [if_neg h0]
      by_cases h1 : k % 2 = 1
      · rw [if_pos h1, T.get_node, ih _ _ _ (by omega), T.get_nil]
        by_cases hj : j = 0
        · simp [hj, Ne.symm h0]
        · rw [if_neg hj]
          by_cases hj1 : j % 2 = 1
          · rw [if_pos hj1]
            by_cases e : j = k
            · subst e; simp
            · have : ¬ j / 2 = k / 2 := by omega
              rw [if_neg this, if_neg e]
          · have : ¬ j = k := by intro e; subst e; exact hj1 h1
            rw [if_neg hj1, if_neg this]
      · rw [if_neg h1, T.get_node, ih _ _ _ (by omega), T.get_nil]
        by_cases hj : j = 0
        · simp [hj, Ne.symm h0]
        · rw [if_neg hj]
          by_cases hj1 : j % 2 = 1
          · have : ¬ j = k := by intro e; subst e; exact h1 hj1
            rw [if_pos hj1, if_neg this]
          · rw [if_neg hj1]
            by_cases e : j = k
            · subst e; simp
            · have : ¬ j / 2 - 1 = k / 2 - 1 := by omega
              rw [if_neg this, if_neg e]

theorem T.get_put (n : Nat) (t : T α) : ∀ (k : Nat) (x : α) (j : Nat), k + 1 < 2 ^ n → (T.put n t k x).get j = if j = k then some x else t.get j := by
  induction t with
  | nil =>
    intro k x j h
    rw [T.get_nil]
    exact T.get_one n k x j h
  | node v l r ihl ihr =>
    intro k x j h
    rw [T.put_node, T.get_node v l r j]
    by_cases h0 : k = 0
    · subst h0
      rw [if_pos rfl, T.get_node]
      by_cases hj : j = 0
      · simp [hj]
      · simp [hj]
    · rw [if_neg h0]
      by_cases h1 : k % 2 = 1
      · rw [if_pos h1, T.get_node, ihl _ _ _ (by omega)]
        by_cases hj : j = 0
        · simp [hj, Ne.symm h0]
        · rw [if_neg hj]
          by_cases hj1 : j % 2 = 1
          · rw [if_pos hj1]
            by_cases e : j = k
            · subst e; simp
            · have : ¬ j / 2 = k / 2 := by omega
              rw [if_neg this, if_neg e, if_neg hj, if_pos hj1]
          · have : ¬ j = k := by intro e; subst e; exact hj1 h1
            rw [if_neg hj1, if_neg this, if_neg hj, if_neg hj1]
      · rw [if_neg h1, T.get_node, ihr _ _ _ (by omega)]
        by_cases hj : j = 0
        · simp [hj, Ne.symm h0]
        · rw [if_neg hj]
          by_cases hj1 : j % 2 = 1
          · have : ¬ j = k := by intro e; subst e; exact h1 hj1
            rw [if_pos hj1, if_neg this, if_neg hj, if_pos hj1]
          · rw [if_neg hj1]
            by_cases e : j = k
            · subst e; simp
            · have : ¬ j / 2 - 1 = k / 2 - 1 := by omega
              rw [if_neg this, if_neg e, if_neg hj, if_neg hj1]

theorem T.get_map (f : α → β) : ∀ (t : T α) (k : Nat), (t.map f).get k = (t.get k).map f := by
  intro t
  induction t with
  | nil => intro k; rfl
  | node v l r ihl ihr =>
    intro k
    show (T.node (v.map f) (l.map f) (r.map f)).get k = _
    simp only [T.get_node]
    split
    · rfl
    · split
      · exact ihl _
      · exact ihr _

theorem T.get_full : ∀ (n k : Nat), (T.full n : T α).get k = none
  | 0, k => rfl
  | n + 1, k => by
    show (T.node none (T.full n) (T.full n)).get k = none
    rw [T.get_node, T.get_full n, T.get_full n]
    simp
end trie

theorem lt_pow (n : Nat) : n + 1 < 2 ^ (n + 1) ∨ n = 0 := by
  induction n with
  | zero => exact .inr rfl
  | succ n ih =>
    left
    rcases ih with h | rfl
    · rw [Nat.pow_succ]; omega
    · decide

theorem T.get_put' {α : Type} (t : T α) (k : Nat) (x : α) (j : Nat) : (T.put (Nat.succ k) t k x).get j = if j = k then some x else t.get j := by
  rcases lt_pow k with h | rfl
  · exact T.get_put _ t k x j h
  · cases t with
    | nil =>
      show (T.node (some x) .nil .nil).get j = _
      rw [T.get_node]
      by_cases h : j = 0
      · simp [h]
      · simp only [h, if_false, T.get_nil]; split <;> rfl
    | node v l r =>
      show (T.node (some x) l r).get j = _
      rw [T.get_node, T.get_node]
      by_cases h : j = 0 <;> simp [h]

theorem AH.get_set {H : AH} {id : Nat} {o : AO} (j : Nat) : (H.set id o).get j = if j = id then some o else H.get j :=
  T.get_put' _ _ _ _

theorem AH.get_blur (H : AH) (fam lo hi j : Nat) : (H.blur fam lo hi).get j = (H.get j).map (AO.blur fam lo hi) := T.get_map _ _ _

theorem AH.new_ok {H H' : AH} {o : AO} {id : Nat} (h : H.new o = .ok (id, H')) :
    id = H.next ∧ True ∧ H'.next = H.next + 1 ∧ ∀ j, H'.get j = if j = H.next then some o else H.get j := by
  obtain ⟨t, n⟩ := H
  simp only [AH.new] at h
  cases h
  exact ⟨rfl, trivial, rfl, fun j => T.get_put' _ _ _ _⟩

theorem AAct.put_eq (a : AAct) (d : Option Tmp) (v : Value) : a.put d v = match d with
    | none => .ok a
    | some d => if d < a.n ∧ a.n < 281474976710655 then .ok { a with tm := T.put AH.top a.tm d v } else .error 14 := by
  obtain ⟨tm, n, ms⟩ := a
  cases d with
  | none => rfl
  | some d =>
    show pick (Nat.ble (Nat.succ d) n) (pick (Nat.ble n 281474976710654) (Except.ok (AAct.mk (T.put AH.top tm d v) n ms)) (Except.error 14)) (Except.error 14) = _
    by_cases h : d < n
    · have h1 : Nat.ble (Nat.succ d) n = true := by rw [Nat.ble_eq]; exact h
      rw [h1]
      by_cases h2 : n < 281474976710655
      · have h3 : Nat.ble n 281474976710654 = true := by rw [Nat.ble_eq]; omega
        rw [h3]; simp [h, h2, pick]
      · have h3 : Nat.ble n 281474976710654 = false := by rw [← Bool.not_eq_true, Nat.ble_eq]; omega
        rw [h3]; simp [h2, pick]
    · have h1 : Nat.ble (Nat.succ d) n = false := by rw [← Bool.not_eq_true, Nat.ble_eq]; exact h
      rw [h1]; simp [h, pick]

theorem AH.row_ok {H : AH} {id : Nat} {r : Row} (h : H.row id = .ok r) : H.get id = some (.row r) := by
  unfold AH.row at h
  split at h
  · rename_i h'; cases h; exact h'
  · cases h

/-! ### Values -/
structure Pl where
  blk : Nat
  base : Nat
  esz : Nat
  ext : Nat

abbrev Ren := Nat → Option Pl

inductive VR (ρ : Ren) : Value → Value → Prop
  | bool (b : Bool) : VR ρ (.bool b) (.bool b)
  | int (k : IntKind) (n : Int) : VR ρ (.int k n) (.int k n)
  | float (k : FloatKind) (n : Nat) : VR ρ (.float k n) (.float k n)
  | complex (k : FloatKind) (n m : Nat) : VR ρ (.complex k n m) (.complex k n m)
  | string (s : ByteArray) : VR ρ (.string s) (.string s)
  | ptrNil : VR ρ (.pointer none) (.pointer none)
  | ptr {id off : Nat} {pl : Pl} : ρ id = some pl → VR ρ (.pointer (some ⟨id, off, none⟩)) (.pointer (some ⟨pl.blk, pl.base + off, none⟩))
  | sliceNil : VR ρ (.slice none 0 0) (.slice none 0 0)
  | slice {id off n c c' : Nat} {pl : Pl} : ρ id = some pl → (c' = c ∨ (pl.esz ≠ 0 ∧ c ≤ c' ∧ off + c' * pl.esz ≤ pl.ext)) →
      VR ρ (.slice (some ⟨id, off, none⟩) n c) (.slice (some ⟨pl.blk, pl.base + off, none⟩) n c')
  | sliceEnd {id off : Nat} {a' : Addr} : VR ρ (.slice (some ⟨id, off, none⟩) 0 0) (.slice (some a') 0 0)
  | mapNil : VR ρ (.map none) (.map none)
  | map {id : Nat} {pl : Pl} : ρ id = some pl → VR ρ (.map (some id)) (.map (some pl.blk))
  | func {f : FuncId} {first first' cap cap' : Array Value} : first.toList.length = first'.toList.length →
      (∀ (i : Nat) (v v' : Value), first.toList[i]? = some v → first'.toList[i]? = some v' → VR ρ v v') → cap.toList.length = cap'.toList.length →
      (∀ (i : Nat) (v v' : Value), cap.toList[i]? = some v → cap'.toList[i]? = some v' → VR ρ v v') → VR ρ (.func (.func f) first cap) (.func (.func f) first' cap')
  | yield {l : Nat} {pl : Pl} : ρ l = some pl → VR ρ (.func (.yield l) #[] #[]) (.func (.yield pl.blk) #[] #[])
  | nilFunc : VR ρ .nilFunc .nilFunc
  | nilIface : VR ρ .nilIface .nilIface
  | iface {t : TypeId} {v v' : Value} : VR ρ v v' → VR ρ (.iface t v) (.iface t v')
  | agg {cs cs' : Array Value} : cs.toList.length = cs'.toList.length →
      (∀ (i : Nat) (v v' : Value), cs.toList[i]? = some v → cs'.toList[i]? = some v' → VR ρ v v') → VR ρ (.agg cs) (.agg cs')
  | tuple {cs cs' : Array Value} : cs.toList.length = cs'.toList.length →
      (∀ (i : Nat) (v v' : Value), cs.toList[i]? = some v → cs'.toList[i]? = some v' → VR ρ v v') → VR ρ (.tuple cs) (.tuple cs')

/-- lists of values -/
def LR (ρ : Ren) (l l' : List Value) : Prop := l.length = l'.length ∧ ∀ (i : Nat) (v v' : Value), l[i]? = some v → l'[i]? = some v' → VR ρ v v'

theorem LR.nil (ρ : Ren) : LR ρ [] [] := ⟨rfl, fun i v v' h => by simp at h⟩

theorem LR.cons {ρ : Ren} {v v' : Value} {l l' : List Value} (h : VR ρ v v') (hl : LR ρ l l') : LR ρ (v :: l) (v' :: l') := by
  refine ⟨by simp [hl.1], fun i u u' hu hu' => ?_⟩
  cases i with
  | zero => simp at hu hu'; subst hu; subst hu'; exact h
  | succ i => simp at hu hu'; exact hl.2 i u u' hu hu'

theorem LR.head {ρ : Ren} {v v' : Value} {l l' : List Value} (h : LR ρ (v :: l) (v' :: l')) : VR ρ v v' := h.2 0 v v' rfl rfl
theorem LR.tail {ρ : Ren} {v v' : Value} {l l' : List Value} (h : LR ρ (v :: l) (v' :: l')) : LR ρ l l' :=
  ⟨by have := h.1; simpa using this, fun i u u' hu hu' => h.2 (i + 1) u u' (by simpa using hu) (by simpa using hu')⟩

theorem LR.cases {ρ : Ren} {P : List Value → List Value → Prop} {l l' : List Value} (h : LR ρ l l') (h0 : P [] [])
    (h1 : ∀ v v' m m', VR ρ v v' → LR ρ m m' → P (v :: m) (v' :: m')) : P l l' := by
  cases l with
  | nil => cases l' with
    | nil => exact h0
    | cons _ _ => have := h.1; simp at this
  | cons v m => cases l' with
    | nil => have := h.1; simp at this
    | cons v' m' => exact h1 v v' m m' h.head h.tail

theorem LR.nil_inv {ρ : Ren} {l' : List Value} (h : LR ρ [] l') : l' = [] := by cases l' with
  | nil => rfl
  | cons _ _ => have := h.1; simp at this

theorem LR.cons_inv {ρ : Ren} {v : Value} {l l' : List Value} (h : LR ρ (v :: l) l') : ∃ v' m', l' = v' :: m' ∧ VR ρ v v' ∧ LR ρ l m' := by
  cases l' with
  | nil => have := h.1; simp at this
  | cons v' m' => exact ⟨v', m', rfl, h.head, h.tail⟩

theorem LR.append {ρ : Ren} {l l' m m' : List Value} (h : LR ρ l l') (hm : LR ρ m m') : LR ρ (l ++ m) (l' ++ m') := by
  induction l generalizing l' with
  | nil => rw [h.nil_inv]; exact hm
  | cons v l ih => obtain ⟨v', k', rfl, hv, hk⟩ := h.cons_inv; exact (ih hk).cons hv

theorem LR.get {ρ : Ren} {l l' : List Value} (h : LR ρ l l') {i : Nat} {v : Value} (hv : l[i]? = some v) : ∃ v', l'[i]? = some v' ∧ VR ρ v v' := by
  have hlt : i < l.length := by
    rcases Nat.lt_or_ge i l.length with h' | h'
    · exact h'
    · rw [List.getElem?_eq_none h'] at hv; cases hv
  have hlt' : i < l'.length := by rw [← h.1]; exact hlt
  exact ⟨l'[i], List.getElem?_eq_getElem hlt', h.2 i v _ hv (List.getElem?_eq_getElem hlt')⟩

theorem LR.take {ρ : Ren} {l l' : List Value} (h : LR ρ l l') (n : Nat) : LR ρ (l.take n) (l'.take n) := by
  induction n generalizing l l' with
  | zero => simpa using LR.nil ρ
  | succ n ih =>
    cases l with
    | nil => rw [h.nil_inv]; simpa using LR.nil ρ
    | cons v l => obtain ⟨v', k', rfl, hv, hk⟩ := h.cons_inv; simpa using (ih hk).cons hv

theorem LR.drop {ρ : Ren} {l l' : List Value} (h : LR ρ l l') (n : Nat) : LR ρ (l.drop n) (l'.drop n) := by
  induction n generalizing l l' with
  | zero => simpa using h
  | succ n ih =>
    cases l with
    | nil => rw [h.nil_inv]; simpa using LR.nil ρ
    | cons v l => obtain ⟨v', k', rfl, hv, hk⟩ := h.cons_inv; simpa using ih hk

def Ren.le (ρ ρ' : Ren) : Prop := ∀ id pl, ρ id = some pl → ρ' id = some pl

theorem VR.mono {ρ ρ' : Ren} (h : ρ.le ρ') {v v' : Value} (hv : VR ρ v v') : VR ρ' v v' := by
  induction hv with
  | bool b => exact .bool b
  | int k n => exact .int k n
  | float k n => exact .float k n
  | complex k n m => exact .complex k n m
  | string s => exact .string s
  | ptrNil => exact .ptrNil
  | ptr hp => exact .ptr (h _ _ hp)
  | sliceNil => exact .sliceNil
  | slice hp hc => exact .slice (h _ _ hp) hc
  | sliceEnd => exact .sliceEnd
  | mapNil => exact .mapNil
  | map hp => exact .map (h _ _ hp)
  | func h1 _ h3 _ i1 i2 => exact .func h1 i1 h3 i2
  | yield hp => exact .yield (h _ _ hp)
  | nilFunc => exact .nilFunc
  | nilIface => exact .nilIface
  | iface _ ih => exact .iface ih
  | agg h1 _ ih => exact .agg h1 ih
  | tuple h1 _ ih => exact .tuple h1 ih

theorem LR.mono {ρ ρ' : Ren} (h : ρ.le ρ') {l l' : List Value} (hl : LR ρ l l') : LR ρ' l l' := ⟨hl.1, fun i v v' a b => (hl.2 i v v' a b).mono h⟩

theorem VR.agg' {ρ : Ren} {l l' : List Value} (h : LR ρ l l') : VR ρ (.agg l.toArray) (.agg l'.toArray) := .agg h.1 h.2
theorem VR.tuple' {ρ : Ren} {l l' : List Value} (h : LR ρ l l') : VR ρ (.tuple l.toArray) (.tuple l'.toArray) := .tuple h.1 h.2

/-- a value's cells -/
theorem VR.cells {ρ : Ren} {v v' : Value} (h : VR ρ v v') : LR ρ v.cells.toList v'.cells.toList := by
  cases h with
  | agg h1 h2 => exact ⟨h1, h2⟩
  | _ => exact (LR.nil ρ).cons (by constructor <;> assumption)

theorem VR.plain {ρ : Ren} {v v' : Value} (h : VR ρ v v') (hp : plainCell v = true) : v'.oneCell' = true := by
  cases h <;> simp [plainCell, Value.oneCell'] at hp ⊢

theorem VR.undef (ρ : Ren) : VR ρ undef undef := .tuple rfl (fun i v v' h => by simp at h)

theorem gnd_func {n : Nat} {f : FuncId} {a b : Array Value} (h : gnd n (.func (.func f) a b) = true) : a = #[] ∧ b = #[] := by
  obtain ⟨la⟩ := a
  obtain ⟨lb⟩ := b
  cases la <;> cases lb <;> first | exact ⟨rfl, rfl⟩ | (cases n <;> simp [gnd] at h)

theorem func_eq {n : Nat} {f : FuncId} {a b a' b' : Array Value} (h : gnd n (.func (.func f) a b) = true) (h1 : a.toList.length = a'.toList.length) (h2 : b.toList.length = b'.toList.length) :
    (Value.func (.func f) a' b') = .func (.func f) a b := by
  obtain ⟨rfl, rfl⟩ := gnd_func h
  simp at h1 h2
  have e1 : a' = #[] := Array.eq_empty_of_size_eq_zero h1.symm
  have e2 : b' = #[] := Array.eq_empty_of_size_eq_zero h2.symm
  rw [e1, e2]

/-- what has no place is what it is -/
theorem gnd_eq {ρ : Ren} : ∀ (n : Nat) {v v' : Value}, gnd n v = true → VR ρ v v' → v' = v := by
  intro n
  induction n with
  | zero =>
    intro v v' h hv
    cases hv <;> first | rfl | (simp [gnd] at h; done) | skip
    rename_i f first first' cap cap' h1 h2 h3 h4
    exact func_eq h h1 h3
  | succ n ih =>
    intro v v' h hv
    have key : ∀ (cs cs' : Array Value), cs.toList.all (gnd n) = true → cs.toList.length = cs'.toList.length →
        (∀ (i : Nat) (v v' : Value), cs.toList[i]? = some v → cs'.toList[i]? = some v' → VR ρ v v') → cs' = cs := by
      intro cs cs' hall hlen hrel
      apply Array.ext'
      apply List.ext_getElem?
      intro i
      cases hc : cs.toList[i]? with
      | none =>
        have : cs.toList.length ≤ i := List.getElem?_eq_none_iff.1 hc
        exact List.getElem?_eq_none_iff.2 (by omega)
      | some v =>
        obtain ⟨u, hu, hvr⟩ := LR.get ⟨hlen, hrel⟩ hc
        rw [hu, ih (List.all_eq_true.1 hall v (List.mem_of_getElem? hc)) hvr]
    cases hv with
    | func h1 h2 h3 h4 => exact func_eq h h1 h3
    | iface hv => simp [gnd] at h; rw [ih h hv]
    | agg h1 h2 => simp only [gnd] at h; rw [key _ _ h h1 h2]
    | tuple h1 h2 => simp only [gnd] at h; rw [key _ _ h h1 h2]
    | _ => first | rfl | (simp [gnd] at h; done)

end
end Go.Eng
