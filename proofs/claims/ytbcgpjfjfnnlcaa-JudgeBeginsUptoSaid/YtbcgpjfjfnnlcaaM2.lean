/-
  Values without a place: what a run's values stand for, and what keeps it so.
-/
import Derived.Test.YtbcgpjfjfnnlcaaE22
set_option linter.unusedSimpArgs false
set_option linter.unusedVariables false
namespace Go.Eng
noncomputable section

/-! ### Lists, place by place -/
def L2 {α β : Type} (R : α → β → Prop) (l : List α) (m : List β) : Prop := l.length = m.length ∧ ∀ (i : Nat) (x : α) (y : β), l[i]? = some x → m[i]? = some y → R x y

theorem get_of_lt {α : Type} {l : List α} {i : Nat} (h : i < l.length) : ∃ x, l[i]? = some x := ⟨l[i], List.getElem?_eq_getElem h⟩

section l2
variable {α β : Type} {R S : α → β → Prop}
theorem L2.nil : L2 R [] [] := ⟨rfl, fun i x y h => by simp at h⟩
theorem L2.cons {x : α} {y : β} {l : List α} {m : List β} (h : R x y) (hl : L2 R l m) : L2 R (x :: l) (y :: m) :=
  ⟨by simp [hl.1], fun i a b ha hb => by
    cases i with
    | zero => simp at ha hb; subst ha; subst hb; exact h
    | succ i => exact hl.2 i a b (by simpa using ha) (by simpa using hb)⟩
theorem L2.mono {l : List α} {m : List β} (h : L2 R l m) (hs : ∀ x y, R x y → S x y) : L2 S l m := ⟨h.1, fun i x y hx hy => hs _ _ (h.2 i x y hx hy)⟩
theorem L2.at {l : List α} {m : List β} (h : L2 R l m) {i : Nat} {x : α} (hx : l[i]? = some x) : ∃ y, m[i]? = some y ∧ R x y := by
  obtain ⟨y, hy⟩ := get_of_lt (l := m) (i := i) (by rw [← h.1]; exact lt_of_get hx)
  exact ⟨y, hy, h.2 i x y hx hy⟩
theorem L2.append {l l' : List α} {m m' : List β} (h : L2 R l m) (h' : L2 R l' m') : L2 R (l ++ l') (m ++ m') :=
  ⟨by simp [h.1, h'.1], fun i x y hx hy => by
    by_cases hi : i < l.length
    · rw [List.getElem?_append_left hi] at hx
      rw [List.getElem?_append_left (by rw [← h.1]; exact hi)] at hy
      exact h.2 i x y hx hy
    · rw [List.getElem?_append_right (by omega)] at hx
      rw [List.getElem?_append_right (by rw [← h.1]; omega), ← h.1] at hy
      exact h'.2 _ x y hx hy⟩
theorem L2.take {l : List α} {m : List β} (h : L2 R l m) (n : Nat) : L2 R (l.take n) (m.take n) :=
  ⟨by simp [h.1], fun i x y hx hy => by
    rw [List.getElem?_take] at hx hy
    split at hx
    · rename_i hi; rw [if_pos hi] at hy; exact h.2 i x y hx hy
    · cases hx⟩
theorem L2.drop {l : List α} {m : List β} (h : L2 R l m) (n : Nat) : L2 R (l.drop n) (m.drop n) :=
  ⟨by simp [h.1], fun i x y hx hy => by
    rw [List.getElem?_drop] at hx hy
    exact h.2 _ x y hx hy⟩
theorem L2.cases_cons {x : α} {l : List α} {m : List β} (h : L2 R (x :: l) m) : ∃ y m', m = y :: m' ∧ R x y ∧ L2 R l m' := by
  cases m with
  | nil => have := h.1; simp at this
  | cons y m' =>
    refine ⟨y, m', rfl, h.2 0 x y rfl rfl, by have := h.1; simpa using this, fun i a b ha hb => h.2 (i + 1) a b (by simpa using ha) (by simpa using hb)⟩
theorem L2.cases_nil {m : List β} (h : L2 R [] m) : m = [] := by
  cases m with
  | nil => rfl
  | cons y m' => have := h.1; simp at this
end l2

/-! ### Values without a place -/
inductive PV where
  | val (v : Value)
  | agg (l : List PV)
  | tup (l : List PV)
  | list (sz : Nat) (l : List (List PV)) (t : Option Nat)
  | ptr (k off : Nat)
  | eptr (cells : List PV) (off : Nat)
  | sl (k off n c : Nat)
  | mp (k : Nat)
  | fn (f : FuncId) (first cap : List PV)
  | iface (t : TypeId) (v : PV)

def PV.cells : PV → List PV
  | .agg l => l
  | p => [p]

def PV.plain : PV → Bool
  | .val v => plainCell v
  | .agg _ => false
  | .tup _ => false
  | _ => true

/-- a row's cells in the machine: a family that may grow, from a place on -/
structure Tk where
  fam : Nat
  base : Nat
  esz : Nat

structure Env where
  rows : List Nat
  toks : List (Option Tk)
  X : Nat → Nat → Nat → Prop

/-- a row whose cells ahead of a place stay as they are -/
structure Stay (e : Env) (tk : List Nat) (H : AH) (id fam en : Nat) : Prop where
  lt : id < H.next
  flt : fam < H.next
  x : e.X id fam en
  row : id ∉ e.rows
  tok : ∀ (t : Nat) (τ : Tk) (n : Nat), e.toks[t]? = some (some τ) → tk[t]? = some n → fam = τ.fam → en ≤ τ.base + n * τ.esz

/-- a list that may grow: where the family ends there -/
def Linked (e : Env) (tk : List Nat) (sz : Nat) (r : Row) (off len c : Nat) (k : Nat) : Prop :=
  ∃ n, tk[k]? = some n ∧ len ≤ n ∧ (len = n → ∃ τ, e.toks[k]? = some (some τ) ∧ r.fam = τ.fam ∧ r.disp + off = τ.base ∧ sz = τ.esz ∧ r.ro = false ∧ c = len)
def NilLinked (e : Env) (tk : List Nat) (k : Nat) : Prop :=
  ∃ n, tk[k]? = some n ∧ (0 = n → e.toks[k]? = some none)

inductive RV (e : Env) (tk : List Nat) (H : AH) : Bool → PV → Value → Prop
  | val {b : Bool} {v : Value} (hv : plainCell v = true) : RV e tk H b (.val v) v
  | agg {b : Bool} {l : List PV} {vs : List Value} (hl : l.length = vs.length) (h : ∀ (i : Nat) (p : PV) (v : Value), l[i]? = some p → vs[i]? = some v → RV e tk H b p v) : RV e tk H b (.agg l) (.agg vs.toArray)
  | tup {b : Bool} {l : List PV} {vs : List Value} (hl : l.length = vs.length) (h : ∀ (i : Nat) (p : PV) (v : Value), l[i]? = some p → vs[i]? = some v → RV e tk H b p v) : RV e tk H b (.tup l) (.tuple vs.toArray)
  | lnil {b : Bool} {sz : Nat} {t : Option Nat} (ht : ∀ k, t = some k → b = true ∧ NilLinked e tk k) : RV e tk H b (.list sz [] t) (.slice none 0 0)
  | list {b : Bool} {sz : Nat} {l : List (List PV)} {t : Option Nat} {id off c n : Nat} {r : Row} (w : Nat → Nat → Value) (hr : H.get id = some (.row r)) (hn : off + l.length * sz ≤ n) (hs : Stay e tk H id r.fam (r.disp + n))
      (he : r.esz = sz) (hc : l.length ≤ c) (hw : off + l.length * sz ≤ r.cells.length) (hz : ∀ (i : Nat) (cs : List PV), l[i]? = some cs → cs.length = sz) (hp : ∀ (i : Nat) (cs : List PV) (j : Nat) (p : PV), l[i]? = some cs → cs[j]? = some p → p.plain = true)
      (hv : ∀ (i : Nat) (cs : List PV) (j : Nat) (p : PV), l[i]? = some cs → cs[j]? = some p → r.cells[off + i * sz + j]? = some (some (w i j)))
      (h : ∀ (i : Nat) (cs : List PV) (j : Nat) (p : PV), l[i]? = some cs → cs[j]? = some p → RV e tk H false p (w i j))
      (ht : ∀ k, t = some k → b = true ∧ Linked e tk sz r off l.length c k) : RV e tk H b (.list sz l t) (.slice (some ⟨id, off, none⟩) l.length c)
  | ptr {k off id : Nat} (hk : e.rows[k]? = some id) : RV e tk H true (.ptr k off) (.pointer (some ⟨id, off, none⟩))
  | sl {k off n c id : Nat} (hk : e.rows[k]? = some id) : RV e tk H true (.sl k off n c) (.slice (some ⟨id, off, none⟩) n c)
  | mp {k id : Nat} (hk : e.rows[k]? = some id) : RV e tk H true (.mp k) (.map (some id))
  | eptr {b : Bool} {cells : List PV} {off id base n : Nat} {r : Row} (w : Nat → Value) (hr : H.get id = some (.row r)) (hn : base + cells.length ≤ n) (hs : Stay e tk H id r.fam (r.disp + n))
      (hv : ∀ (j : Nat) (p : PV), cells[j]? = some p → r.cells[base + j]? = some (some (w j))) (h : ∀ (j : Nat) (p : PV), cells[j]? = some p → RV e tk H false p (w j)) : RV e tk H b (.eptr cells off) (.pointer (some ⟨id, base + off, none⟩))
  | fn {b : Bool} {f : FuncId} {l m : List PV} {vs ws : List Value} (hl : l.length = vs.length) (h : ∀ (i : Nat) (p : PV) (v : Value), l[i]? = some p → vs[i]? = some v → RV e tk H b p v)
      (hm : m.length = ws.length) (h' : ∀ (i : Nat) (p : PV) (v : Value), m[i]? = some p → ws[i]? = some v → RV e tk H b p v) : RV e tk H b (.fn f l m) (.func (.func f) vs.toArray ws.toArray)
  | iface {b : Bool} {t : TypeId} {p : PV} {v : Value} (h : RV e tk H b p v) : RV e tk H b (.iface t p) (.iface t v)

theorem RV.up {e : Env} {tk : List Nat} {H : AH} {b b' : Bool} {p : PV} {v : Value} (h : RV e tk H b p v) (hb : b = true → b' = true) : RV e tk H b' p v := by
  induction h with
  | val hv => exact .val hv
  | agg hl _ ih => exact .agg hl (fun i p v hi hv => ih i p v hi hv hb)
  | tup hl _ ih => exact .tup hl (fun i p v hi hv => ih i p v hi hv hb)
  | lnil ht => exact .lnil fun k hk => ⟨hb (ht k hk).1, (ht k hk).2⟩
  | list w hr hn hs he hc hw hz hp hv h ht => exact .list w hr hn hs he hc hw hz hp hv h fun k hk => ⟨hb (ht k hk).1, (ht k hk).2⟩
  | ptr hk => rw [hb rfl]; exact .ptr hk
  | sl hk => rw [hb rfl]; exact .sl hk
  | mp hk => rw [hb rfl]; exact .mp hk
  | eptr w hr hn hs hv h => exact .eptr w hr hn hs hv h
  | fn hl _ hm _ ih ih' => exact .fn hl (fun i p v hi hv => ih i p v hi hv hb) hm (fun i p v hi hv => ih' i p v hi hv hb)
  | iface _ ih => exact .iface (ih hb)

theorem RV.top {e : Env} {tk : List Nat} {H : AH} {b : Bool} {p : PV} {v : Value} (h : RV e tk H b p v) : RV e tk H true p v := h.up fun _ => rfl

theorem plain_of {e : Env} {tk : List Nat} {H : AH} {b : Bool} {p : PV} {v : Value} (h : RV e tk H b p v) (hp : p.plain = true) : plainCell v = true := by
  cases h <;> first | assumption | rfl | (cases hp)

theorem RV.cells {e : Env} {tk : List Nat} {H : AH} {b : Bool} {p : PV} {v : Value} (h : RV e tk H b p v) : L2 (RV e tk H b) p.cells v.cells.toList := by
  cases h with
  | agg hl h => exact ⟨by simpa [PV.cells, Value.cells] using hl, fun i x y hx hy => h i x y hx (by simpa [Value.cells] using hy)⟩
  | val hv =>
    cases v with
    | agg cs => cases hv
    | tuple cs => cases hv
    | _ => exact L2.cons (.val rfl) L2.nil
  | tup hl h => exact L2.cons (.tup hl h) L2.nil
  | lnil ht => exact L2.cons (.lnil ht) L2.nil
  | list w hr hn hs he hc hw hz hp hv h ht => exact L2.cons (.list w hr hn hs he hc hw hz hp hv h ht) L2.nil
  | ptr hk => exact L2.cons (.ptr hk) L2.nil
  | sl hk => exact L2.cons (.sl hk) L2.nil
  | mp hk => exact L2.cons (.mp hk) L2.nil
  | eptr w hr hn hs hv h => exact L2.cons (.eptr w hr hn hs hv h) L2.nil
  | fn hl h hm h' => exact L2.cons (.fn hl h hm h') L2.nil
  | iface h => exact L2.cons (.iface h) L2.nil

end
end Go.Eng
/-
  What a memory keeps, and how it may turn.
-/
namespace Go.Eng
noncomputable section

structure Meta (r r' : Row) : Prop where
  ty : r'.ty = r.ty
  fam : r'.fam = r.fam
  disp : r'.disp = r.disp
  esz : r'.esz = r.esz
  ro : r'.ro = r.ro
  len : r'.cells.length = r.cells.length

theorem Meta.refl (r : Row) : Meta r r := ⟨rfl, rfl, rfl, rfl, rfl, rfl⟩
theorem Meta.trans {r s t : Row} (h : Meta r s) (h' : Meta s t) : Meta r t := ⟨h'.ty.trans h.ty, h'.fam.trans h.fam, h'.disp.trans h.disp, h'.esz.trans h.esz, h'.ro.trans h.ro, h'.len.trans h.len⟩

/-- where an activation began, and what it was given -/
structure Ctx where
  H0 : AH
  ids : List Nat
  toks : List (Option Tk)
  lims : List Nat
  X : Nat → Nat → Nat → Prop

def Prot (C : Ctx) (fam pos : Nat) : Prop := ∀ (t : Nat) (τ : Tk) (n : Nat), C.toks[t]? = some (some τ) → C.lims[t]? = some n → fam = τ.fam → pos < τ.base + n * τ.esz

structure Frame (C : Ctx) (H : AH) : Prop where
  next : C.H0.next ≤ H.next
  row : ∀ (id : Nat) (r : Row), C.H0.get id = some (.row r) → id ∉ C.ids → ∃ r', H.get id = some (.row r') ∧ Meta r r' ∧ (∀ p, Prot C r.fam (r.disp + p) → r'.cells[p]? = r.cells[p]?) ∧ ((∀ (t : Nat) (τ : Tk), C.toks[t]? = some (some τ) → r.fam ≠ τ.fam) → r'.solo = r.solo)
  oth : ∀ (id : Nat) (o : AO), C.H0.get id = some o → (∀ r, o ≠ .row r) → id ∉ C.ids → H.get id = some o
  gone : ∀ (id : Nat), id < C.H0.next → C.H0.get id = none → H.get id = none
  fam : ∀ (id : Nat) (r : Row), H.get id = some (.row r) → (∃ id0 r0, C.H0.get id0 = some (.row r0) ∧ r0.fam = r.fam) ∨ C.H0.next ≤ r.fam

structure Extn (C : Ctx) (e : Env) (tk : List Nat) : Prop where
  rows : ∃ new, e.rows = C.ids ++ new ∧ ∀ id ∈ new, C.H0.next ≤ id
  tok : ∀ (t : Nat) (τ : Tk), e.toks[t]? = some (some τ) → C.toks[t]? = some (some τ) ∨ C.H0.next ≤ τ.fam
  old : ∀ (t : Nat) (τ : Tk), C.toks[t]? = some (some τ) → e.toks[t]? = some (some τ)
  lim : ∀ (t n : Nat), C.lims[t]? = some n → ∃ n', tk[t]? = some n' ∧ n ≤ n' ∧ (n' = n → e.toks[t]? = C.toks[t]?)

/-- a memory's own rules: each row's number and family are behind the next -/
structure WF0 (H : AH) : Prop where
  lt : ∀ (id : Nat) (o : AO), H.get id = some o → id < H.next
  fam : ∀ (id : Nat) (r : Row), H.get id = some (.row r) → r.fam < H.next
  esz : ∀ (id id' : Nat) (r r' : Row), H.get id = some (.row r) → H.get id' = some (.row r') → r.fam = r'.fam → r.ro = false → r.esz ≠ 0 → r'.esz ≠ 0 → r'.esz = r.esz

theorem esz_of {H H' : AH} (hw : WF0 H) (hb : ∀ (id : Nat) (r : Row), H'.get id = some (.row r) → r.esz = 0 ∨ ∃ id0 r0, H.get id0 = some (.row r0) ∧ r.fam = r0.fam ∧ r.esz = r0.esz ∧ r.ro = r0.ro) :
    ∀ (id id' : Nat) (r r' : Row), H'.get id = some (.row r) → H'.get id' = some (.row r') → r.fam = r'.fam → r.ro = false → r.esz ≠ 0 → r'.esz ≠ 0 → r'.esz = r.esz := by
  intro id id' r r' h h' hf hro h0 h0'
  rcases hb id r h with h1 | ⟨i, q, k1, k2, k3, k4⟩
  · exact absurd h1 h0
  rcases hb id' r' h' with h2 | ⟨j, q', m1, m2, m3, m4⟩
  · exact absurd h2 h0'
  rw [k3, m3]
  exact hw.esz i j q q' k1 m1 (by rw [← k2, ← m2]; exact hf) (by rw [← k4]; exact hro) (by rw [← k3]; exact h0) (by rw [← m3]; exact h0')

structure PRow where
  esz : Nat
  cells : List PV

def RowP (e : Env) (tk : List Nat) (H : AH) (id : Nat) (R : PRow) : Prop :=
  ∃ (r : Row) (vs : List Value), H.get id = some (.row r) ∧ r.solo = true ∧ r.ro = false ∧ r.esz = R.esz ∧ r.fam = id ∧ r.cells = vs.map some ∧ L2 (RV e tk H true) R.cells vs

/-- the mark of a map among the rows: its one cell is a list of keys and values -/
def mapE : Nat := 4294967295
inductive GE : List (List PV) → List AEnt → Prop
  | nil : GE [] []
  | pair {l : List (List PV)} {x : AEnt} {es : List AEnt} (hp : plainCell x.val = true) (h : GE l es) : GE ([.val x.key, .val x.val] :: l) (x :: es)
  | unit {l : List (List PV)} {x : AEnt} {es : List AEnt} (hv : x.val = .agg #[]) (h : GE l es) : GE ([.val x.key] :: l) (x :: es)
def MapP (H : AH) (id : Nat) (R : PRow) : Prop :=
  ∃ (es : List AEnt) (clock sz : Nat) (l : List (List PV)), H.get id = some (.map es clock) ∧ R.cells = [.list sz l none] ∧ GE l es

def RowOK (e : Env) (tk : List Nat) (H : AH) (id : Nat) (R : PRow) : Prop := R.esz ≠ mapE ∧ RowP e tk H id R ∨ R.esz = mapE ∧ MapP H id R

/-- may so many cells of a row be written? -/
def okW (R : PRow) (n : Nat) : Bool :=
  match Nat.beq R.esz mapE with
  | true => false
  | false => Nat.ble n R.cells.length
theorem okW_spec {R : PRow} {n : Nat} (h : okW R n = true) : Nat.beq R.esz mapE = false ∧ Nat.ble n R.cells.length = true := by
  unfold okW at h
  cases hz : Nat.beq R.esz mapE with
  | true => rw [hz] at h; cases h
  | false => rw [hz] at h; exact ⟨rfl, h⟩
theorem RowOK.row {e : Env} {tk : List Nat} {H : AH} {id : Nat} {R : PRow} (h : RowOK e tk H id R) (hn : Nat.beq R.esz mapE = false) : RowP e tk H id R := by
  rcases h with ⟨_, h⟩ | ⟨h, _⟩
  · exact h
  · rw [h] at hn; exact absurd hn (by decide)
theorem RowOK.map {e : Env} {tk : List Nat} {H : AH} {id : Nat} {R : PRow} (h : RowOK e tk H id R) (hn : R.esz = mapE) : MapP H id R := by
  rcases h with ⟨h, _⟩ | ⟨_, h⟩
  · exact absurd hn h
  · exact h
theorem RowOK.here {e : Env} {tk : List Nat} {H : AH} {id : Nat} {R : PRow} (h : RowOK e tk H id R) : ∃ o, H.get id = some o ∧ ((∃ r, o = .row r) ∨ ∃ es c, o = .map es c) := by
  rcases h with ⟨_, r, _, h, _⟩ | ⟨_, es, c, _, _, h, _⟩
  · exact ⟨_, h, .inl ⟨r, rfl⟩⟩
  · exact ⟨_, h, .inr ⟨es, c, rfl⟩⟩
/-- a row stays what it is, where its object does -/
theorem RowOK.stay {e e' : Env} {tk tk' : List Nat} {H H' : AH} {id : Nat} {R R' : PRow} (h : RowOK e tk H id R) (hz : R'.esz = R.esz) (ho : H'.get id = H.get id) (hc : ∀ vs, L2 (RV e tk H true) R.cells vs → L2 (RV e' tk' H' true) R'.cells vs) (hm : ∀ sz l, R.cells = [.list sz l none] → R'.cells = R.cells := by intro _ _ _; rfl) : RowOK e' tk' H' id R' := by
  rcases h with ⟨h0, r, vs, h1, h2, h3, h4, h5, h6, h7⟩ | ⟨h0, es, c, sz, l, h1, h2, h3⟩
  · exact .inl ⟨by rw [hz]; exact h0, r, vs, ho.trans h1, h2, h3, by rw [hz]; exact h4, h5, h6, hc vs h7⟩
  · exact .inr ⟨hz.trans h0, es, c, sz, l, ho.trans h1, (hm sz l h2).trans h2, h3⟩

structure HInv (e : Env) (fr : List PRow) (tk : List Nat) (H : AH) : Prop where
  wf : WF0 H
  rlen : e.rows.length = fr.length
  rnd : ∀ (i j id : Nat), e.rows[i]? = some id → e.rows[j]? = some id → i = j
  row : ∀ (k id : Nat) (R : PRow), e.rows[k]? = some id → fr[k]? = some R → RowOK e tk H id R
  tlen : e.toks.length = tk.length
  tsep : ∀ (t t' : Nat) (τ τ' : Tk), e.toks[t]? = some (some τ) → e.toks[t']? = some (some τ') → τ.fam = τ'.fam → t = t'
  tlt : ∀ (t : Nat) (τ : Tk), e.toks[t]? = some (some τ) → τ.fam < H.next
  tfr : ∀ (t : Nat) (τ : Tk), e.toks[t]? = some (some τ) → τ.fam ∉ e.rows

def ctx (e : Env) (tk : List Nat) (H : AH) : Ctx := ⟨H, e.rows, e.toks, tk, e.X⟩

structure XC (e : Env) (H : AH) : Prop where
  new : ∀ id fam en, H.next ≤ id → H.next ≤ fam → e.X id fam en
  tok : ∀ (t : Nat) (τ : Tk) id en, e.toks[t]? = some (some τ) → H.next ≤ id → e.X id τ.fam en

structure CW (C : Ctx) : Prop where
  wf : WF0 C.H0
  len : C.toks.length = C.lims.length
  ids : ∀ id ∈ C.ids, ∃ o, C.H0.get id = some o ∧ ((∃ r, o = .row r) ∨ ∃ es c, o = .map es c)

structure RelH (C : Ctx) (e : Env) (fr : List PRow) (tk : List Nat) (H : AH) : Prop where
  inv : HInv e fr tk H
  ext : Extn C e tk
  frame : Frame C H
  cw : CW C
  x : XC e C.H0
  x0 : e.X = C.X

structure Step (e : Env) (tk : List Nat) (H : AH) (e' : Env) (fr' : List PRow) (tk' : List Nat) (H' : AH) : Prop where
  inv : HInv e' fr' tk' H'
  ext : Extn (ctx e tk H) e' tk'
  frame : Frame (ctx e tk H) H'
  x : e'.X = e.X

/-! ### What is known goes over -/
structure Grow (e : Env) (tk : List Nat) (H : AH) (e' : Env) (tk' : List Nat) (H' : AH) : Prop where
  next : H.next ≤ H'.next
  rows : ∀ (k id : Nat), e.rows[k]? = some id → e'.rows[k]? = some id
  stay : ∀ id fam en, (∃ o, H.get id = some o) → Stay e tk H id fam en → Stay e' tk' H' id fam en
  row : ∀ (id : Nat) (r : Row) (n : Nat), H.get id = some (.row r) → Stay e tk H id r.fam (r.disp + n) → ∃ r', H'.get id = some (.row r') ∧ Meta r r' ∧ ∀ p, p < n → r'.cells[p]? = r.cells[p]?
  tok : ∀ (k n : Nat), tk[k]? = some n → ∃ n', tk'[k]? = some n' ∧ n ≤ n' ∧ (n' = n → e'.toks[k]? = e.toks[k]?)

theorem mul_at {i j L sz : Nat} (hi : i < L) (hj : j < sz) : i * sz + j < L * sz := by
  have h1 : (i + 1) * sz ≤ L * sz := Nat.mul_le_mul_right _ hi
  have h2 : (i + 1) * sz = i * sz + sz := by rw [Nat.add_mul, Nat.one_mul]
  omega

theorem RV.grow {e e' : Env} {tk tk' : List Nat} {H H' : AH} (g : Grow e tk H e' tk' H') {b : Bool} {p : PV} {v : Value} (h : RV e tk H b p v) : RV e' tk' H' b p v := by
  induction h with
  | val hv => exact .val hv
  | agg hl _ ih => exact .agg hl ih
  | tup hl _ ih => exact .tup hl ih
  | lnil ht =>
    refine .lnil fun k hk => ?_
    obtain ⟨hb, n, h1, h2⟩ := ht k hk
    obtain ⟨n', h3, h4, h5⟩ := g.tok k n h1
    refine ⟨hb, n', h3, fun h6 => ?_⟩
    have : n = 0 := by omega
    rw [h5 (by omega)]
    exact h2 this.symm
  | @list b sz l t id off c n r w hr hn hs he hc hw hz hp hv h ht ih =>
    obtain ⟨r', h1, hm, h2⟩ := g.row _ _ _ hr hs
    refine .list w h1 hn (by rw [hm.fam, hm.disp]; exact g.stay _ _ _ ⟨_, hr⟩ hs) (hm.esz.trans he) hc (by rw [hm.len]; exact hw) hz hp (fun i cs j p hi hj => ?_) ih fun k hk => ?_
    · have := mul_at (lt_of_get hi) (show j < sz by rw [← hz i cs hi]; exact lt_of_get hj)
      rw [h2 _ (by omega)]
      exact hv i cs j p hi hj
    · obtain ⟨hb, n, h3, h4, h5⟩ := ht k hk
      obtain ⟨n', h6, h7, h8⟩ := g.tok k n h3
      refine ⟨hb, n', h6, by omega, fun h9 => ?_⟩
      obtain ⟨τ, k1, k2, k3, k4, k5, k6⟩ := h5 (by omega)
      exact ⟨τ, by rw [h8 (by omega)]; exact k1, by rw [hm.fam]; exact k2, by rw [hm.disp]; exact k3, k4, by rw [hm.ro]; exact k5, k6⟩
  | ptr hk => exact .ptr (g.rows _ _ hk)
  | sl hk => exact .sl (g.rows _ _ hk)
  | mp hk => exact .mp (g.rows _ _ hk)
  | @eptr b cells off id base n r w hr hn hs hv _ ih =>
    obtain ⟨r', h1, hm, h2⟩ := g.row _ _ _ hr hs
    refine .eptr w h1 hn (by rw [hm.fam, hm.disp]; exact g.stay _ _ _ ⟨_, hr⟩ hs) (fun j p hj => ?_) ih
    have := lt_of_get hj
    rw [h2 _ (by omega)]
    exact hv j p hj
  | fn hl _ hm _ ih ih' => exact .fn hl ih hm ih'
  | iface _ ih => exact .iface ih

theorem L2.grow {e e' : Env} {tk tk' : List Nat} {H H' : AH} (g : Grow e tk H e' tk' H') {b : Bool} {l : List PV} {vs : List Value} (h : L2 (RV e tk H b) l vs) : L2 (RV e' tk' H' b) l vs := h.mono fun _ _ h => h.grow g

theorem Stay.mk' {e e' : Env} {tk tk' : List Nat} {H H' : AH} (hx : Extn (ctx e tk H) e' tk') (hn : H.next ≤ H'.next) (hX : e'.X = e.X) (hl : e.toks.length = tk.length) {id fam en : Nat} (h : Stay e tk H id fam en) : Stay e' tk' H' id fam en := by
  refine ⟨Nat.lt_of_lt_of_le h.lt hn, Nat.lt_of_lt_of_le h.flt hn, by rw [hX]; exact h.x, fun hm => ?_, fun t τ n ht hn' hf => ?_⟩
  · obtain ⟨new, h1, h2⟩ := hx.rows
    rw [h1] at hm
    rcases List.mem_append.1 hm with h3 | h3
    · exact h.row h3
    · have := h2 _ h3; have := h.lt; simp only [ctx] at *; omega
  · rcases hx.tok t τ ht with h3 | h3
    · obtain ⟨n0, hn0⟩ := get_of_lt (l := tk) (i := t) (by rw [← hl]; exact lt_of_get h3)
      obtain ⟨n', h4, h5, _⟩ := hx.lim t n0 hn0
      rw [hn'] at h4; cases h4
      have h6 := h.tok t τ n0 h3 hn0 hf
      have h7 : n0 * τ.esz ≤ n * τ.esz := Nat.mul_le_mul_right _ h5
      omega
    · have := h.flt; simp only [ctx] at h3; omega

theorem grow_of {e e' : Env} {tk tk' : List Nat} {H H' : AH} (hx : Extn (ctx e tk H) e' tk') (hf : Frame (ctx e tk H) H') (hX : e'.X = e.X) (hl : e.toks.length = tk.length) : Grow e tk H e' tk' H' := by
  refine ⟨hf.next, fun k id hk => ?_, fun id fam en _ h => h.mk' hx hf.next hX hl, fun id r n hr hs => ?_, hx.lim⟩
  · obtain ⟨new, h1, _⟩ := hx.rows
    rw [h1]
    show (e.rows ++ new)[k]? = some id
    rw [List.getElem?_append_left (show k < e.rows.length from lt_of_get hk)]
    exact hk
  · obtain ⟨r', h1, h2, h3, _⟩ := hf.row id r hr hs.row
    refine ⟨r', h1, h2, fun p hp => h3 p fun t τ n' ht hn' hfam => ?_⟩
    have := hs.tok t τ n' ht hn' hfam
    omega

theorem Step.grow {e e' : Env} {tk tk' : List Nat} {H H' : AH} {fr fr' : List PRow} (h : HInv e fr tk H) (s : Step e tk H e' fr' tk' H') : Grow e tk H e' tk' H' := grow_of s.ext s.frame s.x h.tlen

theorem Frame.refl (C : Ctx) : Frame C C.H0 := ⟨Nat.le_refl _, fun id r hr _ => ⟨r, hr, Meta.refl r, fun _ _ => rfl, fun _ => rfl⟩, fun _ _ h _ _ => h, fun _ _ h => h, fun id r h => .inl ⟨id, r, h, rfl⟩⟩
theorem Extn.refl (e : Env) (tk : List Nat) (H : AH) : Extn (ctx e tk H) e tk :=
  ⟨⟨[], by simp [ctx], by simp⟩, fun _ _ h => .inl h, fun _ _ h => h, fun t n h => ⟨n, h, Nat.le_refl _, fun _ => rfl⟩⟩
theorem Step.refl {e : Env} {tk : List Nat} {H : AH} {fr : List PRow} (h : HInv e fr tk H) : Step e tk H e fr tk H := ⟨h, Extn.refl e tk H, Frame.refl (ctx e tk H), rfl⟩

theorem Frame.famT {C : Ctx} {e : Env} {tk : List Nat} {H H' : AH} (h : Frame (ctx e tk H) H') (hf : Frame C H) (id : Nat) (r : Row) (hr : H'.get id = some (.row r)) : (∃ id0 r0, C.H0.get id0 = some (.row r0) ∧ r0.fam = r.fam) ∨ C.H0.next ≤ r.fam := by
  rcases h.fam id r hr with ⟨i0, r0, k1, k2⟩ | k
  · rcases hf.fam i0 r0 k1 with ⟨i1, r1, m1, m2⟩ | m
    · exact .inl ⟨i1, r1, m1, m2.trans k2⟩
    · exact .inr (by rw [← k2]; exact m)
  · exact .inr (Nat.le_trans hf.next k)
theorem Frame.famB {C : Ctx} {H H' : AH} (hf : Frame C H) (hb : ∀ id r, H'.get id = some (.row r) → ∃ id0 r0, H.get id0 = some (.row r0) ∧ r0.fam = r.fam) (id : Nat) (r : Row) (hr : H'.get id = some (.row r)) : (∃ id0 r0, C.H0.get id0 = some (.row r0) ∧ r0.fam = r.fam) ∨ C.H0.next ≤ r.fam := by
  obtain ⟨i0, r0, k1, k2⟩ := hb id r hr
  rcases hf.fam i0 r0 k1 with ⟨i1, r1, m1, m2⟩ | m
  · exact .inl ⟨i1, r1, m1, m2.trans k2⟩
  · exact .inr (by rw [← k2]; exact m)

theorem Frame.trans {C : Ctx} {e : Env} {tk : List Nat} {H H' : AH} (hw : CW C) (hx : Extn C e tk) (hf : Frame C H) (h : Frame (ctx e tk H) H') : Frame C H' := by
  refine ⟨Nat.le_trans hf.next h.next, fun id r hr hid => ?_, fun id o ho hn hid => h.oth id o (hf.oth id o ho hn hid) hn (fun hm => by
    obtain ⟨new, k1, k2⟩ := hx.rows
    have hm : id ∈ e.rows := hm
    rw [k1] at hm
    rcases List.mem_append.1 hm with k3 | k3
    · exact hid k3
    · have := k2 _ k3; have := hw.wf.lt id _ ho; omega), fun id h1 h2 => h.gone id (Nat.lt_of_lt_of_le h1 hf.next) (hf.gone id h1 h2), fun id r hr => h.famT hf id r hr⟩
  obtain ⟨r1, h1, m1, c1, s1⟩ := hf.row id r hr hid
  have hid' : id ∉ e.rows := fun hm => by
    obtain ⟨new, k1, k2⟩ := hx.rows
    rw [k1] at hm
    rcases List.mem_append.1 hm with k3 | k3
    · exact hid k3
    · have := k2 _ k3; have := hw.wf.lt id _ hr; omega
  obtain ⟨r2, h2, m2, c2, s2⟩ := h.row id r1 h1 hid'
  refine ⟨r2, h2, m1.trans m2, fun p hp => ?_, fun hno => (s2 fun t τ ht => ?_).trans (s1 hno)⟩
  case refine_2 =>
    rw [m1.fam]
    rcases hx.tok t τ ht with k | k
    · exact hno t τ k
    · have := hw.wf.fam id r hr; omega
  rw [← c1 p hp]
  refine c2 p fun t τ n ht hn hfam => ?_
  rw [m1.fam] at hfam
  rw [m1.disp]
  rcases hx.tok t τ ht with k | k
  · obtain ⟨n0, hn0⟩ := get_of_lt (l := C.lims) (i := t) (by rw [← hw.len]; exact lt_of_get k)
    obtain ⟨n', k1, k2, _⟩ := hx.lim t n0 hn0
    have hn' : tk[t]? = some n := hn
    rw [hn'] at k1; cases k1
    have := hp t τ n0 k hn0 hfam
    have h7 : n0 * τ.esz ≤ n * τ.esz := Nat.mul_le_mul_right _ k2
    omega
  · have := hw.wf.fam id r hr; omega

theorem Extn.trans {C : Ctx} {e e' : Env} {tk tk' : List Nat} {H : AH} (hn : C.H0.next ≤ H.next) (hx : Extn C e tk) (h : Extn (ctx e tk H) e' tk') : Extn C e' tk' := by
  refine ⟨?_, fun t τ ht => ?_, fun t τ ht => h.old t τ (hx.old t τ ht), fun t n ht => ?_⟩
  · obtain ⟨n1, h1, h2⟩ := hx.rows
    obtain ⟨n2, h3, h4⟩ := h.rows
    have h3' : e'.rows = e.rows ++ n2 := h3
    refine ⟨n1 ++ n2, by rw [h3', h1, List.append_assoc], fun id hid => ?_⟩
    rcases List.mem_append.1 hid with k | k
    · exact h2 _ k
    · exact Nat.le_trans hn (h4 _ k)
  · rcases h.tok t τ ht with k | k
    · exact hx.tok t τ k
    · exact .inr (Nat.le_trans hn k)
  · obtain ⟨n1, h1, h2, h3⟩ := hx.lim t n ht
    obtain ⟨n2, h4, h5, h6⟩ := h.lim t n1 h1
    refine ⟨n2, h4, Nat.le_trans h2 h5, fun e1 => ?_⟩
    have : n2 = n1 := by omega
    rw [h6 this]
    exact h3 (by omega)

theorem XC.later {e : Env} {H H' : AH} (h : XC e H) (hn : H.next ≤ H'.next) : XC e H' := ⟨fun id fam en h1 h2 => h.new id fam en (Nat.le_trans hn h1) (Nat.le_trans hn h2), fun t τ id en h1 h2 => h.tok t τ id en h1 (Nat.le_trans hn h2)⟩

theorem RelH.step {C : Ctx} {e e' : Env} {tk tk' : List Nat} {H H' : AH} {fr fr' : List PRow} (h : RelH C e fr tk H) (s : Step e tk H e' fr' tk' H') : RelH C e' fr' tk' H' := by
  refine ⟨s.inv, h.ext.trans h.frame.next s.ext, h.frame.trans h.cw h.ext s.frame, h.cw, ?_, s.x.trans h.x0⟩
  refine ⟨fun id fam en h1 h2 => by rw [s.x]; exact h.x.new id fam en h1 h2, fun t τ id en h1 h2 => ?_⟩
  rw [s.x]
  rcases s.ext.tok t τ h1 with k | k
  · exact h.x.tok t τ id en k h2
  · exact h.x.new _ _ _ h2 (Nat.le_trans h.frame.next k)

theorem HInv.ids {e : Env} {tk : List Nat} {H : AH} {fr : List PRow} (h : HInv e fr tk H) (id : Nat) (hm : id ∈ e.rows) : ∃ o, H.get id = some o ∧ ((∃ r, o = .row r) ∨ ∃ es c, o = .map es c) := by
  obtain ⟨k, hk, e1⟩ := List.mem_iff_getElem.1 hm
  have hk' : e.rows[k]? = some id := by rw [List.getElem?_eq_getElem hk, e1]
  obtain ⟨R, hR⟩ := get_of_lt (l := fr) (i := k) (by rw [← h.rlen]; exact hk)
  exact (h.row k id R hk' hR).here
theorem RelH.start {e : Env} {tk : List Nat} {H : AH} {fr : List PRow} (h : HInv e fr tk H) (hx : XC e H) : RelH (ctx e tk H) e fr tk H := ⟨h, Extn.refl e tk H, Frame.refl (ctx e tk H), ⟨h.wf, h.tlen, h.ids⟩, hx, rfl⟩
/-- what is neither a row nor a map stays -/
theorem CW.oth {C : Ctx} (w : CW C) {id : Nat} {o : AO} (h : C.H0.get id = some o) (h1 : ∀ r, o ≠ .row r) (h2 : ∀ es c, o ≠ .map es c) : id ∉ C.ids := fun hm => by
  obtain ⟨o', q1, q2⟩ := w.ids id hm
  rw [h] at q1; cases q1
  rcases q2 with ⟨r, e⟩ | ⟨es, c, e⟩
  · exact h1 r e
  · exact h2 es c e
theorem RelH.other {C : Ctx} {e : Env} {tk : List Nat} {H : AH} {fr : List PRow} (h : RelH C e fr tk H) {id : Nat} {o : AO} (ho : C.H0.get id = some o) (h1 : ∀ r, o ≠ .row r) (h2 : ∀ es c, o ≠ .map es c) : H.get id = some o := h.frame.oth id o ho h1 (h.cw.oth ho h1 h2)
theorem Step.other {e e' : Env} {tk tk' : List Nat} {H H' : AH} {fr fr' : List PRow} (hI : HInv e fr tk H) (s : Step e tk H e' fr' tk' H') {id : Nat} {o : AO} (ho : H.get id = some o) (h1 : ∀ r, o ≠ .row r) (h2 : ∀ es c, o ≠ .map es c) : H'.get id = some o :=
  s.frame.oth id o ho h1 (CW.oth (C := ctx e tk H) ⟨hI.wf, hI.tlen, hI.ids⟩ ho h1 h2)
theorem RelH.back {e e' : Env} {tk tk' : List Nat} {H H' : AH} {fr' : List PRow} (h : RelH (ctx e tk H) e' fr' tk' H') : Step e tk H e' fr' tk' H' := ⟨h.inv, h.ext, h.frame, h.x0⟩
theorem RelH.xc {C : Ctx} {e : Env} {tk : List Nat} {H : AH} {fr : List PRow} (h : RelH C e fr tk H) : XC e H := h.x.later h.frame.next

end
end Go.Eng
