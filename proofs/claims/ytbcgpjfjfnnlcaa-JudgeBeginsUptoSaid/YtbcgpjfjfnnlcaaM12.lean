/-
  Calls.
-/
import Derived.Test.YtbcgpjfjfnnlcaaM11
set_option linter.unusedSimpArgs false
set_option linter.unusedVariables false
namespace Go.Eng
noncomputable section
variable {P : Program} {O : Orc}

/-- one list laid over another one, at some places; what is left over comes behind -/
def mergeF {α : Type} (ks : List Nat) (l2 : List α) : Nat → List α → List α
  | _, [] => []
  | k, x :: l => (match idx ks k with
    | some i => match l2[i]? with
      | some y => y
      | none => x
    | none => x) :: mergeF ks l2 (k + 1) l
def merge {α : Type} (l : List α) (ks : List Nat) (l2 : List α) : List α := mergeF ks l2 0 l ++ l2.drop ks.length

theorem mergeF_len {α : Type} (ks : List Nat) (l2 : List α) : ∀ (l : List α) (k : Nat), (mergeF ks l2 k l).length = l.length
  | [], _ => rfl
  | x :: l, k => by simp [mergeF, mergeF_len ks l2 l]
theorem mergeF_get {α : Type} (ks : List Nat) (l2 : List α) : ∀ (l : List α) (k j : Nat) (x : α), l[j]? = some x → (mergeF ks l2 k l)[j]? = some (match idx ks (k + j) with
    | some i => match l2[i]? with
      | some y => y
      | none => x
    | none => x)
  | y :: l, k, 0, x, h => by simp at h; subst h; simp [mergeF]
  | y :: l, k, j + 1, x, h => by
    simp only [mergeF, List.getElem?_cons_succ]
    rw [mergeF_get ks l2 l (k + 1) j x (by simpa using h), show k + 1 + j = k + (j + 1) by omega]

theorem idx_of {ks : List Nat} (hn : ∀ (i j k : Nat), ks[i]? = some k → ks[j]? = some k → i = j) {i k : Nat} (h : ks[i]? = some k) : idx ks k = some i := by
  have key : ∀ (l : List Nat) (k : Nat), k ∈ l → ∃ i, idx l k = some i := by
    intro l
    induction l with
    | nil => intro k h; simp at h
    | cons a l ih =>
      intro k hk
      simp only [idx]
      cases hb : Nat.beq k a with
      | true => exact ⟨0, rfl⟩
      | false =>
        have : k ∈ l := by
          rcases List.mem_cons.1 hk with e | h
          · subst e; rw [Nat.beq_refl] at hb; cases hb
          · exact h
        obtain ⟨i, hi⟩ := ih k this
        exact ⟨i + 1, by rw [hi]; rfl⟩
  obtain ⟨i', hi'⟩ := key ks k (List.mem_of_getElem? h)
  rw [hi', hn i i' k h (idx_get hi')]

theorem merge_pass {α : Type} {l : List α} {ks : List Nat} {l2 : List α} {i k : Nat} {y : α} (hn : ∀ (i j k : Nat), ks[i]? = some k → ks[j]? = some k → i = j) (hk : ks[i]? = some k) (hl : k < l.length) (hy : l2[i]? = some y) : (merge l ks l2)[k]? = some y := by
  unfold merge
  rw [List.getElem?_append_left (by rw [mergeF_len]; exact hl)]
  obtain ⟨x, hx⟩ := get_of_lt hl
  rw [mergeF_get ks l2 l 0 k x hx, Nat.zero_add, idx_of hn hk]
  simp only [hy]
theorem merge_keep {α : Type} {l : List α} {ks : List Nat} {l2 : List α} {k : Nat} {x : α} (hk : idx ks k = none) (hx : l[k]? = some x) : (merge l ks l2)[k]? = some x := by
  unfold merge
  rw [List.getElem?_append_left (by rw [mergeF_len]; exact lt_of_get hx), mergeF_get ks l2 l 0 k x hx, Nat.zero_add, hk]
theorem merge_new {α : Type} {l : List α} {ks : List Nat} {l2 : List α} {i : Nat} (hi : ks.length ≤ i) : (merge l ks l2)[l.length + (i - ks.length)]? = l2[i]? := by
  unfold merge
  rw [List.getElem?_append_right (by rw [mergeF_len]; omega), mergeF_len, List.getElem?_drop]
  congr 1; omega
theorem merge_len {α : Type} (l : List α) (ks : List Nat) (l2 : List α) : (merge l ks l2).length = l.length + (l2.length - ks.length) := by
  unfold merge; rw [List.length_append, mergeF_len, List.length_drop]
/-- where a place of the merged list comes from -/
theorem merge_inv {α : Type} {l : List α} {ks : List Nat} {l2 : List α} (hlen : ks.length ≤ l2.length) {k : Nat} {y : α} (h : (merge l ks l2)[k]? = some y) :
    (k < l.length ∧ idx ks k = none ∧ l[k]? = some y) ∨ (∃ i, k < l.length ∧ ks[i]? = some k ∧ idx ks k = some i ∧ l2[i]? = some y) ∨ (∃ i, ks.length ≤ i ∧ k = l.length + (i - ks.length) ∧ l2[i]? = some y) := by
  by_cases hk : k < l.length
  · obtain ⟨x, hx⟩ := get_of_lt hk
    cases hi : idx ks k with
    | none => rw [merge_keep hi hx] at h; cases h; exact .inl ⟨hk, rfl, hx⟩
    | some i =>
      have hi' := idx_get hi
      obtain ⟨z, hz⟩ := get_of_lt (l := l2) (i := i) (by have := lt_of_get hi'; omega)
      have h' := h
      unfold merge at h'
      rw [List.getElem?_append_left (by rw [mergeF_len]; exact hk), mergeF_get ks l2 l 0 k x hx, Nat.zero_add, hi] at h'
      simp only [hz] at h'
      cases h'
      exact .inr (.inl ⟨i, hk, hi', rfl, hz⟩)
  · refine .inr (.inr ⟨k - l.length + ks.length, by omega, by omega, ?_⟩)
    rw [← merge_new (l := l) (ks := ks) (l2 := l2) (i := k - l.length + ks.length) (by omega), show l.length + (k - l.length + ks.length - ks.length) = k by omega]
    exact h

/-- the callee's numbers, as the caller has them -/
def backN (ks : List Nat) (n : Nat) (i : Nat) : Option Nat := pick (Nat.ble (i + 1) ks.length) (ks[i]?) (some (n + (i - ks.length)))

theorem backN_cases {ks : List Nat} {n i k : Nat} (h : backN ks n i = some k) : (i < ks.length ∧ ks[i]? = some k) ∨ (ks.length ≤ i ∧ k = n + (i - ks.length)) := by
  unfold backN at h
  cases hb : Nat.ble (i + 1) ks.length with
  | true => rw [hb] at h; rw [Nat.ble_eq] at hb; exact .inl ⟨hb, h⟩
  | false =>
    rw [hb] at h
    have hb' : ¬ i + 1 ≤ ks.length := by rw [← Nat.ble_eq, hb]; simp
    cases h; exact .inr ⟨by omega, rfl⟩

def backRow (f g : Nat → Option Nat) (R : PRow) : Option PRow := match mapO (PV.to f g 4) R.cells with
  | some cs => some ⟨R.esz, cs⟩
  | none => none

theorem rowOK_same {e e' : Env} {tk tk' : List Nat} {H H' : AH} {id : Nat} {R : PRow} (g : Grow e tk H e' tk' H') (h : RowOK e tk H id R) {C : Ctx} (hC : C.H0 = H) (hf : Frame C H') (hid : id ∉ C.ids) (ht : ∀ (t : Nat) (τ : Tk), C.toks[t]? = some (some τ) → τ.fam ≠ id) : RowOK e' tk' H' id R := by
  subst hC
  rcases h with ⟨h0, r, us, h2, h3, h4, h5, h6, h7, h8⟩ | ⟨h0, es, c, sz, l, h2, h3⟩
  case inr => exact .inr ⟨h0, es, c, sz, l, hf.oth id _ h2 (fun r e1 => by cases e1) hid, h3⟩
  obtain ⟨r', k1, k2, k3, k4⟩ := hf.row id r h2 hid
  have hc : r'.cells = r.cells := by
    apply List.ext_getElem?
    intro p
    exact k3 p (fun t τ n a1 _ a3 => absurd (a3.symm.trans h6) (ht t τ a1))
  exact .inl ⟨h0, r', us, k1, (k4 (fun t τ a1 e1 => ht t τ a1 (e1.symm.trans h6))).trans h3, k2.ro.trans h4, k2.esz.trans h5, k2.fam.trans h6, hc.trans h7, h8.grow g⟩

section
variable {C : Ctx} {e e2 : Env} {s : PS} {a : AAct} {H H2 : AH} {ks ts : List Nat} {fr1 fr2 fr2b : List PRow} {tk2 : List Nat}

/-- what the callee may not touch -/
def hidX (e : Env) (tk : List Nat) (ts : List Nat) : Nat → Nat → Nat → Prop := fun id fam en => e.X id fam en ∧ id ∉ e.rows ∧ ∀ (t : Nat) (τ : Tk) (n : Nat), idx ts t = none → e.toks[t]? = some (some τ) → tk[t]? = some n → fam = τ.fam → en ≤ τ.base + n * τ.esz

theorem call_back (hR : RelA C e s a H) (hk : SelOK 0 s.fr.length ks) (ht : SelOK 0 s.tk.length ts) (hI2 : HInv (e.sel ks ts (hidX e s.tk ts)) fr1 (pickN s.tk ts) H)
    (st : Step (e.sel ks ts (hidX e s.tk ts)) (pickN s.tk ts) H e2 fr2 tk2 H2) (hb : mapO (backRow (backN ks s.fr.length) (backN ts s.tk.length)) fr2 = some fr2b) :
    ∃ e3, Step e s.tk H e3 (merge s.fr ks fr2b) (merge s.tk ts tk2) H2 ∧ Sel e2 e3 tk2 (merge s.tk ts tk2) H2 (backN ks s.fr.length) (backN ts s.tk.length) := by
  have hI := hR.h.inv
  have hX := hR.h.xc
  generalize hfr : s.fr = fr at *
  generalize htk : s.tk = tk at *
  -- the callee's rows and tokens
  obtain ⟨new, hn1, hn2⟩ := st.ext.rows
  have hn1 : e2.rows = pickN e.rows ks ++ new := hn1
  have hpl : (pickN e.rows ks).length = ks.length := by simp [pickN]
  have htl : (pickT e.toks ts).length = ts.length := by simp [pickT]
  have htl2 : (pickN tk ts).length = ts.length := by simp [pickN]
  have hrl : ∀ (i k : Nat), ks[i]? = some k → k < e.rows.length := fun i k hi => by rw [hI.rlen]; exact hk.lt i k hi
  have htkl : ∀ (i k : Nat), ts[i]? = some k → k < e.toks.length := fun i k hi => by rw [hI.tlen]; exact ht.lt i k hi
  have hlen2 : ts.length ≤ e2.toks.length := by
    rcases Nat.eq_zero_or_pos ts.length with h | h
    · omega
    · obtain ⟨x, hx⟩ := get_of_lt (l := pickN tk ts) (i := ts.length - 1) (by omega)
      obtain ⟨n', h1, _⟩ := st.ext.lim _ x hx
      have := lt_of_get h1
      have := st.inv.tlen
      omega
  have hlen3 : ts.length ≤ tk2.length := by rw [← st.inv.tlen]; exact hlen2
  have hnewlt : ∀ id ∈ new, H.next ≤ id := hn2
  let e3 : Env := ⟨e.rows ++ new, merge e.toks ts e2.toks, e.X⟩
  have hnxt : H.next ≤ H2.next := st.frame.next
  -- a token of the callee's: the caller's own, or a new one
  have htok2 : ∀ (i : Nat) (τ : Tk), e2.toks[i]? = some (some τ) → (∃ t, ts[i]? = some t ∧ e.toks[t]? = some (some τ)) ∨ H.next ≤ τ.fam := fun i τ hi => by
    rcases st.ext.tok i τ hi with h | h
    · obtain ⟨t, h1, h2⟩ := pickT_inv htkl h
      exact .inl ⟨t, h1, h2⟩
    · exact .inr h
  have hext : Extn (ctx e tk H) e3 (merge tk ts tk2) := by
    refine ⟨⟨new, rfl, hnewlt⟩, fun t τ h => ?_, fun t τ h => ?_, fun t n h => ?_⟩
    · rcases merge_inv hlen2 h with ⟨_, _, h1⟩ | ⟨i, _, h1, _, h2⟩ | ⟨i, h1, _, h2⟩
      · exact .inl h1
      · rcases htok2 i τ h2 with ⟨t', k1, k2⟩ | k
        · rw [h1] at k1; cases k1; exact .inl k2
        · exact .inr k
      · rcases htok2 i τ h2 with ⟨t', k1, k2⟩ | k
        · have := lt_of_get k1; omega
        · exact .inr k
    · have h' : e.toks[t]? = some (some τ) := h
      cases hi : idx ts t with
      | none => exact merge_keep hi h'
      | some i => exact merge_pass ht.nd (idx_get hi) (lt_of_get h') (st.ext.old i τ (pickT_at (idx_get hi) h'))
    · have h' : tk[t]? = some n := h
      obtain ⟨x, hx⟩ := get_of_lt (l := e.toks) (i := t) (by rw [hI.tlen]; exact lt_of_get h')
      cases hi : idx ts t with
      | none => exact ⟨n, merge_keep hi h', Nat.le_refl _, fun _ => by show (merge e.toks ts e2.toks)[t]? = e.toks[t]?; rw [hx]; exact merge_keep hi hx⟩
      | some i =>
        obtain ⟨n', k1, k2, k3⟩ := st.ext.lim i n (pickN_at (idx_get hi) h')
        refine ⟨n', merge_pass ht.nd (idx_get hi) (lt_of_get h') k1, k2, fun k4 => ?_⟩
        show (merge e.toks ts e2.toks)[t]? = e.toks[t]?
        rw [hx]
        refine merge_pass ht.nd (idx_get hi) (lt_of_get hx) ?_
        rw [k3 k4]
        exact pickT_at (idx_get hi) hx
  have hframe : Frame (ctx e tk H) H2 := by
    have hout : ∀ id, id ∉ e.rows → id ∉ pickN e.rows ks := fun id hid hm => by
      obtain ⟨i, hi, hi'⟩ := List.mem_iff_getElem.1 hm
      obtain ⟨k, _, h2⟩ := pickN_inv (l := e.rows) (ks := ks) (i := i) (x := id) hrl (by rw [List.getElem?_eq_getElem (show i < (pickN e.rows ks).length from hi)]; exact congrArg some hi')
      exact hid (List.mem_of_getElem? h2)
    refine ⟨hnxt, fun id r hr hid => ?_, fun id o ho hn hid => st.frame.oth id o ho hn (hout id hid), st.frame.gone, st.frame.fam⟩
    obtain ⟨r', k1, k2, k3, k4⟩ := st.frame.row id r hr (hout id hid)
    refine ⟨r', k1, k2, fun p hp => k3 p fun t τ n a1 a2 a3 => ?_, fun hno => k4 fun t τ a1 => ?_⟩
    · obtain ⟨t', b1, b2⟩ := pickT_inv htkl a1
      obtain ⟨t'', b3, b4⟩ := pickN_inv (l := tk) ht.lt a2
      rw [b1] at b3; cases b3
      exact hp t' τ n b2 b4 a3
    · obtain ⟨t', b1, b2⟩ := pickT_inv htkl a1
      exact hno t' τ b2
  have g : Grow e tk H e3 (merge tk ts tk2) H2 := grow_of hext hframe rfl hI.tlen
  -- the callee's facts, in the caller's words
  have hstay : ∀ id fam en, Stay e2 tk2 H2 id fam en → Stay e3 (merge tk ts tk2) H2 id fam en := fun id fam en hs => by
    have hx : hidX e tk ts id fam en := by have := hs.x; rw [st.x] at this; exact this
    refine ⟨hs.lt, hs.flt, hx.1, fun hm => ?_, fun t τ n h1 h2 h3 => ?_⟩
    · rcases List.mem_append.1 hm with h | h
      · exact hx.2.1 h
      · exact hs.row (by rw [hn1]; exact List.mem_append_right _ h)
    · rcases merge_inv hlen2 h1 with ⟨_, k1, k2⟩ | ⟨i, _, k1, k0, k2⟩ | ⟨i, k1, k0, k2⟩
      · rcases merge_inv hlen3 h2 with ⟨_, _, k3⟩ | ⟨i, _, _, k3, _⟩ | ⟨i, _, k3, _⟩
        · exact hx.2.2 t τ n k1 k2 k3 h3
        · rw [k1] at k3; cases k3
        · have := lt_of_get k2; have := hI.tlen; omega
      · rcases merge_inv hlen3 h2 with ⟨_, k3, _⟩ | ⟨i', _, _, k3, k4⟩ | ⟨i', _, k3, _⟩
        · rw [k0] at k3; cases k3
        · rw [k0] at k3; cases k3; exact hs.tok i τ n k2 k4 h3
        · have := htkl i t k1; have := hI.tlen; omega
      · rcases merge_inv hlen3 h2 with ⟨k3, _, _⟩ | ⟨i', k3, _, _, _⟩ | ⟨i', k3, k4, k5⟩
        · have := hI.tlen; omega
        · have := hI.tlen; omega
        · have : i = i' := by have := hI.tlen; omega
          subst this; exact hs.tok i τ n k2 k5 h3
  have hsel : Sel e2 e3 tk2 (merge tk ts tk2) H2 (backN ks fr.length) (backN ts tk.length) := by
    refine ⟨fun k k' h id hid => ?_, fun t t' h n hn => ?_, hstay⟩
    · show (e.rows ++ new)[k']? = some id
      rw [hn1] at hid
      rcases backN_cases h with ⟨h1, h2⟩ | ⟨h1, h2⟩
      · rw [List.getElem?_append_left (by omega)] at hid
        obtain ⟨k0, h3, h4⟩ := pickN_inv hrl hid
        rw [h2] at h3; cases h3
        exact get_app_old h4
      · rw [List.getElem?_append_right (by omega), hpl] at hid
        rw [h2, ← hI.rlen, List.getElem?_append_right (by omega), show e.rows.length + (k - ks.length) - e.rows.length = k - ks.length by omega]
        exact hid
    · obtain ⟨x, hx⟩ := get_of_lt (l := e2.toks) (i := t) (by rw [st.inv.tlen]; exact lt_of_get hn)
      rcases backN_cases h with ⟨h1, h2⟩ | ⟨h1, h2⟩
      · refine ⟨merge_pass ht.nd h2 (ht.lt _ _ h2) hn, ?_⟩
        show (merge e.toks ts e2.toks)[t']? = _
        rw [hx]; exact merge_pass ht.nd h2 (htkl _ _ h2) hx
      · subst h2
        refine ⟨by rw [merge_new h1]; exact hn, ?_⟩
        show (merge e.toks ts e2.toks)[tk.length + (t - ts.length)]? = _
        rw [← hI.tlen, merge_new h1]
  obtain ⟨hbl, hba⟩ := mapO_at hb
  have hrow2 : ∀ (i id : Nat) (R : PRow), e2.rows[i]? = some id → fr2b[i]? = some R → RowOK e3 (merge tk ts tk2) H2 id R := fun i id R hi hR' => by
    obtain ⟨R0, hR0⟩ := get_of_lt (l := fr2) (i := i) (by rw [hbl]; exact lt_of_get hR')
    have h1 := hba i R0 R hR0 hR'
    unfold backRow at h1
    cases hm : mapO (PV.to (backN ks fr.length) (backN ts tk.length) 4) R0.cells with
    | none => rw [hm] at h1; cases h1
    | some cs =>
      rw [hm] at h1; cases h1
      exact (st.inv.row i id R0 hi hR0).stay rfl rfl (fun us h8 => h8.sel hsel hm) (fun sz l hl => to_list hm hl)
  have hl2b : ks.length ≤ fr2b.length := by
    rw [← hbl, ← st.inv.rlen, hn1, List.length_append, hpl]; omega
  refine ⟨e3, ⟨⟨st.inv.wf, ?_, fun i j id hi hj => ?_, fun k id R hk' hR' => ?_, ?_, fun t t' τ τ' h1 h2 hf => ?_, fun t τ h => ?_, fun t τ h hm => ?_⟩, hext, hframe, rfl⟩, hsel⟩
  · show (e.rows ++ new).length = _
    rw [merge_len, List.length_append, hI.rlen, ← hbl, ← st.inv.rlen, hn1, List.length_append, hpl]; omega
  · have hi' : (e.rows ++ new)[i]? = some id := hi
    have hj' : (e.rows ++ new)[j]? = some id := hj
    have side : ∀ (i : Nat), (e.rows ++ new)[i]? = some id → (i < e.rows.length ∧ e.rows[i]? = some id) ∨ (e.rows.length ≤ i ∧ new[i - e.rows.length]? = some id) := fun i h => by
      by_cases hlt : i < e.rows.length
      · rw [List.getElem?_append_left hlt] at h; exact .inl ⟨hlt, h⟩
      · rw [List.getElem?_append_right (by omega)] at h; exact .inr ⟨by omega, h⟩
    rcases side i hi' with ⟨_, h1⟩ | ⟨a1, h1⟩ <;> rcases side j hj' with ⟨_, h2⟩ | ⟨a2, h2⟩
    · exact hI.rnd i j id h1 h2
    · have := hI.rlt (List.mem_of_getElem? h1); have := hnewlt _ (List.mem_of_getElem? h2); omega
    · have := hI.rlt (List.mem_of_getElem? h2); have := hnewlt _ (List.mem_of_getElem? h1); omega
    · have := st.inv.rnd (ks.length + (i - e.rows.length)) (ks.length + (j - e.rows.length)) id (by rw [hn1, List.getElem?_append_right (by omega), hpl, show ks.length + (i - e.rows.length) - ks.length = i - e.rows.length by omega]; exact h1) (by rw [hn1, List.getElem?_append_right (by omega), hpl, show ks.length + (j - e.rows.length) - ks.length = j - e.rows.length by omega]; exact h2)
      omega
  · have hk2 : (e.rows ++ new)[k]? = some id := hk'
    rcases merge_inv hl2b hR' with ⟨h0, h1, h2⟩ | ⟨i, h0, h1, _, h2⟩ | ⟨i, h1, h0, h2⟩
    · rw [List.getElem?_append_left (by rw [hI.rlen]; exact h0)] at hk2
      refine rowOK_same g (hI.row k id R hk2 h2) (C := ctx (e.sel ks ts (hidX e tk ts)) (pickN tk ts) H) rfl st.frame (fun hm => ?_) (fun t τ a1 e1 => ?_)
      · obtain ⟨i, hi, hi'⟩ := List.mem_iff_getElem.1 hm
        obtain ⟨k0, k1, k2⟩ := pickN_inv (l := e.rows) (ks := ks) (i := i) (x := id) hrl (by rw [List.getElem?_eq_getElem (show i < (pickN e.rows ks).length from hi)]; exact congrArg some hi')
        have := hI.rnd k k0 id hk2 k2
        subst this
        rw [idx_of hk.nd k1] at h1; cases h1
      · obtain ⟨t', b1, b2⟩ := pickT_inv htkl a1
        exact hI.tfr t' τ b2 (by rw [e1]; exact List.mem_of_getElem? hk2)
    · rw [List.getElem?_append_left (by rw [hI.rlen]; exact h0)] at hk2
      refine hrow2 i id R ?_ h2
      rw [hn1, List.getElem?_append_left (by rw [hpl]; exact lt_of_get h1)]
      exact pickN_at h1 hk2
    · subst h0
      rw [← hI.rlen, List.getElem?_append_right (by omega), show e.rows.length + (i - ks.length) - e.rows.length = i - ks.length by omega] at hk2
      refine hrow2 i id R ?_ h2
      rw [hn1, List.getElem?_append_right (by omega), hpl]; exact hk2
  · show (merge e.toks ts e2.toks).length = _
    rw [merge_len, merge_len, hI.tlen, st.inv.tlen]
  · -- tokens are apart
    have far : ∀ (t i : Nat) (τ τ' : Tk), idx ts t = none → e.toks[t]? = some (some τ) → e2.toks[i]? = some (some τ') → τ.fam = τ'.fam → False := fun t i τ τ' a1 a2 a3 a4 => by
      rcases htok2 i τ' a3 with ⟨t'', b1, b2⟩ | b
      · have := hI.tsep t t'' τ τ' a2 b2 a4
        subst this
        rw [idx_of ht.nd b1] at a1; cases a1
      · have := hI.tlt t τ a2; omega
    rcases merge_inv hlen2 h1 with ⟨_, k1, k2⟩ | ⟨i, _, k1, k0, k2⟩ | ⟨i, k1, k0, k2⟩ <;> rcases merge_inv hlen2 h2 with ⟨_, m1, m2⟩ | ⟨j, _, m1, m0, m2⟩ | ⟨j, m1, m0, m2⟩
    · exact hI.tsep t t' τ τ' k2 m2 hf
    · exact (far t j τ τ' k1 k2 m2 hf).elim
    · exact (far t j τ τ' k1 k2 m2 hf).elim
    · exact (far t' i τ' τ m1 m2 k2 hf.symm).elim
    · have := st.inv.tsep i j τ τ' k2 m2 hf; subst this; rw [k1] at m1; cases m1; rfl
    · have := st.inv.tsep i j τ τ' k2 m2 hf; subst this; have := lt_of_get k1; omega
    · exact (far t' i τ' τ m1 m2 k2 hf.symm).elim
    · have := st.inv.tsep i j τ τ' k2 m2 hf; subst this; have := lt_of_get m1; omega
    · have := st.inv.tsep i j τ τ' k2 m2 hf; subst this; omega
  · rcases merge_inv hlen2 h with ⟨_, _, k2⟩ | ⟨i, _, _, _, k2⟩ | ⟨i, _, _, k2⟩
    · have := hI.tlt t τ k2; omega
    · exact st.inv.tlt i τ k2
    · exact st.inv.tlt i τ k2
  · have hm' : τ.fam ∈ e.rows ∨ τ.fam ∈ new := List.mem_append.1 hm
    have own : ∀ i, e2.toks[i]? = some (some τ) → False := fun i k2 => by
      rcases hm' with h1 | h1
      · rcases htok2 i τ k2 with ⟨t', b1, b2⟩ | b
        · exact hI.tfr t' τ b2 h1
        · have := hI.rlt h1; omega
      · exact st.inv.tfr i τ k2 (by rw [hn1]; exact List.mem_append_right _ h1)
    rcases merge_inv hlen2 h with ⟨_, _, k2⟩ | ⟨i, _, _, _, k2⟩ | ⟨i, _, _, k2⟩
    · rcases hm' with h1 | h1
      · exact hI.tfr t τ k2 h1
      · have := hI.tlt t τ k2; have := hnewlt _ h1; omega
    · exact own i k2
    · exact own i k2
end

/-- the caller's rows, as the callee has them -/
def SelFr0 (fr : List PRow) (ks ts : List Nat) : List Nat → List PRow → Prop
  | [], [] => True
  | k :: l, R :: fr' => SelRow fr (idx ks) (idx ts) k R ∧ SelFr0 fr ks ts l fr'
  | _, _ => False

theorem SelFr0.at {fr : List PRow} {ks ts : List Nat} : ∀ {l : List Nat} {fr' : List PRow}, SelFr0 fr ks ts l fr' → l.length = fr'.length ∧ ∀ (i k : Nat) (R : PRow), l[i]? = some k → fr'[i]? = some R → SelRow fr (idx ks) (idx ts) k R
  | [], [], _ => ⟨rfl, fun i k R h => by simp at h⟩
  | k :: l, R :: fr', h => by
    obtain ⟨h1, h2⟩ := SelFr0.at h.2
    refine ⟨by simp [h1], fun i k' R' hi hR => ?_⟩
    cases i with
    | zero => simp at hi hR; subst hi; subst hR; exact h.1
    | succ i => exact h2 i k' R' (by simpa using hi) (by simpa using hR)
  | [], _ :: _, h => h.elim
  | _ :: _, [], h => h.elim

/-- what a call leaves -/
def CallK (s : PS) (ks ts : List Nat) (Qf : PV → List PRow → List Nat → Prop) (K : PV → List PRow → List Nat → Prop) : Prop :=
  ∀ p fr2 tk2, Qf p fr2 tk2 → ∃ p3 fr2b, PV.to (backN ks s.fr.length) (backN ts s.tk.length) 4 p = some p3 ∧ mapO (backRow (backN ks s.fr.length) (backN ts s.tk.length)) fr2 = some fr2b ∧ K p3 (merge s.fr ks fr2b) (merge s.tk ts tk2)

theorem call_core {C : Ctx} {e : Env} {s : PS} {a : AAct} {H : AH} (hR : RelA C e s a H) {g : FuncId} {args args1 : List PV} {vs : List Value} {ks ts : List Nat} {fr1 : List PRow} {Qf K : PV → List PRow → List Nat → Prop} (hv : L2 (RV e s.tk H true) args vs)
    (hk : selB 0 s.fr.length ks = true) (ht : selB 0 s.tk.length ts = true) (ha : mapO (PV.to (idx ks) (idx ts) 4) args = some args1) (hfr : SelFr0 s.fr ks ts ks fr1) (hf : PF P O g args1 fr1 (pickN s.tk ts) Qf) (hK : CallK s ks ts Qf K) :
    WF1 P O g vs H (fun v H' => ∃ e' p fr' tk', Step e s.tk H e' fr' tk' H' ∧ RV e' tk' H' true p v ∧ K p fr' tk' ∧ ∀ (k id : Nat), e.rows[k]? = some id → idx ks k = none → H'.get id = H.get id) := by
  have hk' := selB_ok hk
  have ht' := selB_ok ht
  have hI := hR.h.inv
  have hX := hR.h.xc
  have hx : ∀ id fam en, Stay e s.tk H id fam en → hidX e s.tk ts id fam en := fun id fam en hs => ⟨hs.x, hs.row, fun t τ n _ h1 h2 h3 => hs.tok t τ n h1 h2 h3⟩
  obtain ⟨hfl, hfa⟩ := hfr.at
  have hI1 : HInv (e.sel ks ts (hidX e s.tk ts)) fr1 (pickN s.tk ts) H := hinv_sel hI hk' ht' hx hfl hfa
  have hsel := sel_mk hI hk' ht' hx
  have hX1 : XC (e.sel ks ts (hidX e s.tk ts)) H := by
    refine ⟨fun id fam en h1 h2 => ⟨hX.new id fam en h1 h2, fun hm => by have := hI.rlt hm; omega, fun t τ n _ h3 _ h4 => by have := hI.tlt t τ h3; omega⟩, fun t τ id en h1 h2 => ?_⟩
    obtain ⟨t', b1, b2⟩ := pickT_inv (l := e.toks) (fun i k hi => by rw [hI.tlen]; exact ht'.lt i k hi) h1
    refine ⟨hX.tok t' τ id en b2 h2, fun hm => by have := hI.rlt hm; omega, fun t2 τ2 n h3 h4 _ h5 => ?_⟩
    have := hI.tsep t' t2 τ τ2 b2 h4 h5
    subst this
    rw [idx_of ht'.nd b1] at h3; cases h3
  refine (hf _ H vs hI1 hX1 (hv.sel hsel ha)).mono fun v H' ⟨e2, fr2, tk2, p, h1, h2, h3⟩ => ?_
  obtain ⟨p3, fr2b, k1, k2, k3⟩ := hK p fr2 tk2 h3
  obtain ⟨e3, m1, m2⟩ := call_back hR hk' ht' hI1 h1 k2
  refine ⟨e3, p3, _, _, m1, h2.sel m2 4 k1, k3, fun k id hkid hki => ?_⟩
  obtain ⟨R, hRk⟩ := get_of_lt (l := s.fr) (i := k) (by rw [← hI.rlen]; exact lt_of_get hkid)
  have hrl : ∀ (i k : Nat), ks[i]? = some k → k < e.rows.length := fun i k hi => by rw [hI.rlen]; exact hk'.lt i k hi
  have hout : id ∉ pickN e.rows ks := fun hm => by
    obtain ⟨i, hi, hi'⟩ := List.mem_iff_getElem.1 hm
    obtain ⟨k0, a1, a2⟩ := pickN_inv (l := e.rows) (ks := ks) (i := i) (x := id) hrl (by rw [List.getElem?_eq_getElem (show i < (pickN e.rows ks).length from hi)]; exact congrArg some hi')
    have := hI.rnd k k0 id hkid a2
    subst this
    rw [idx_of hk'.nd a1] at hki; cases hki
  rcases hI.row k id R hkid hRk with ⟨_, r, us, g2, g3, g4, g5, g6, g7, g8⟩ | ⟨_, es, c, _, _, g2, _⟩
  case inr => rw [h1.frame.oth id _ g2 (fun r e1 => by cases e1) hout, g2]
  obtain ⟨r', q1, q2, q3, q4⟩ := h1.frame.row id r g2 hout
  have hnt : ∀ (t : Nat) (τ : Tk), (pickT e.toks ts)[t]? = some (some τ) → r.fam ≠ τ.fam := fun t τ a1 e1 => by
    obtain ⟨t', b1, b2⟩ := pickT_inv (l := e.toks) (fun i k hi => by rw [hI.tlen]; exact ht'.lt i k hi) a1
    exact hI.tfr t' τ b2 (by rw [← e1, g6]; exact List.mem_of_getElem? hkid)
  have hc : r'.cells = r.cells := by
    apply List.ext_getElem?
    intro p
    exact q3 p (fun t τ n a1 _ a3 => absurd a3 (hnt t τ a1))
  have hs := q4 hnt
  have : r' = r := by
    obtain ⟨c1, t1, f1, d1, z1, o1, s1⟩ := r
    obtain ⟨c2, t2, f2, d2, z2, o2, s2⟩ := r'
    have := q2.ty; have := q2.fam; have := q2.disp; have := q2.esz; have := q2.ro
    simp only at *
    subst_vars
    rfl
  rw [q1, g2, this]

section ops
variable {rnd : Option Nat} {all os : List Oper} {s : PS} {Q : PS → Prop}

theorem PO.call {o : Oper} {g : FuncId} {xs : Array Operand} {tys : Array TypeId} {args args1 : List PV} {ks ts : List Nat} {fr1 : List PRow} {Qf : PV → List PRow → List Nat → Prop} (ho : o.op = .call ⟨.value (.func g), xs, tys⟩) (hw : pWanted all s o = some true) (hx : evs s xs.toList = some args) (hc : s.can o.dst = true)
    (hk : selB 0 s.fr.length ks = true) (ht : selB 0 s.tk.length ts = true) (ha : mapO (PV.to (idx ks) (idx ts) 4) args = some args1) (hfr : SelFr0 s.fr ks ts ks fr1) (hf : PF P O g args1 fr1 (pickN s.tk ts) Qf)
    (h : CallK s ks ts Qf (fun p fr tk => PO P O rnd all os ((s.mem fr tk).upd o.dst p) Q)) : PO P O rnd all (o :: os) s Q := fun C e a H hR => by
  obtain ⟨vs, h1, h2⟩ := hR.evs hx
  refine WO.call ho (hR.wanted hw) h1 (hR.can hc) (call_core hR h2 hk ht ha hfr hf h) ?_
  rintro v H' ⟨e', p, fr', tk', k1, k2, k3, _⟩
  exact k3 C e' _ H' (hR.upd hc k1 k2)

/-- a method of an interface's value is called -/
theorem PO.invoke {o : Oper} {x : Operand} {name : String} {g : FuncId} {t : TypeId} {q : PV} {xs : Array Operand} {tys : Array TypeId} {args args1 : List PV} {ks ts : List Nat} {fr1 : List PRow} {Qf : PV → List PRow → List Nat → Prop} (ho : o.op = .call ⟨.invoke x name, xs, tys⟩) (hf0 : s.ev x = some (.iface t q)) (hm : aMethod P t name = .ok g)
    (hw : pWanted all s o = some true) (hx : evs s xs.toList = some args) (hc : s.can o.dst = true) (hk : selB 0 s.fr.length ks = true) (ht : selB 0 s.tk.length ts = true) (ha : mapO (PV.to (idx ks) (idx ts) 4) (q :: args) = some args1) (hfr : SelFr0 s.fr ks ts ks fr1) (hf : PF P O g args1 fr1 (pickN s.tk ts) Qf)
    (h : CallK s ks ts Qf (fun p fr tk => PO P O rnd all os ((s.mem fr tk).upd o.dst p) Q)) : PO P O rnd all (o :: os) s Q := fun C e a H hR => by
  obtain ⟨vs, h1, h2⟩ := hR.evs hx
  obtain ⟨fv, h3, h4⟩ := hR.ev hf0
  cases h4 with
  | @iface _ _ _ u hu =>
    obtain ⟨n, v, H', k1, e', p, fr', tk', k2, k3, k4, _⟩ := call_core hR (L2.cons hu h2) hk ht ha hfr hf h
    refine WO.one (hR.wanted hw) (by rw [ho]; rfl) ⟨n, ?_⟩ (hR.can hc) (k4 C e' _ H' (hR.upd hc k2 k3))
    obtain ⟨d, op, ty, ps, af, gu⟩ := o
    simp only at ho
    subst ho
    simp only [aOp, h1, AAct.ev_eval h3, bind, Except.bind, hm, k1]

theorem PF.known {f : FuncId} {v : Value} {Q : PV → List PRow → List Nat → Prop} (hk : Eng.known O f [] = some v) (hs : O.s f = false) (hp : plainCell v = true) (h : Q (.val v) [] []) : PF P O f [] [] [] Q := fun e H vs hI hX hv => by
  have := hv.cases_nil; subst this
  exact WF1.known hk hs ⟨e, [], [], .val v, Step.refl hI, .val hp, h⟩
end ops

end
end Go.Eng
