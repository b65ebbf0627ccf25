/-
  How a memory turns: new rows, new lists, stores, appends.
-/
import Derived.Test.YtbcgpjfjfnnlcaaM2
set_option linter.unusedSimpArgs false
set_option linter.unusedVariables false
namespace Go.Eng
noncomputable section
variable {P : Program} {e : Env} {fr : List PRow} {tk : List Nat} {H : AH}

theorem HInv.rlt (h : HInv e fr tk H) {id : Nat} (hm : id ∈ e.rows) : id < H.next := by
  obtain ⟨k, hk, hk'⟩ := List.mem_iff_getElem.1 hm
  have hk2 : e.rows[k]? = some id := by rw [List.getElem?_eq_getElem hk, hk']
  obtain ⟨R, hR⟩ := get_of_lt (l := fr) (i := k) (by rw [← h.rlen]; exact hk)
  obtain ⟨o, hr, _⟩ := (h.row k id R hk2 hR).here
  exact h.wf.lt id _ hr

theorem HInv.nnext (h : HInv e fr tk H) : H.next ∉ e.rows := fun hm => by have := h.rlt hm; omega

theorem wf_push (hw : WF0 H) {r : Row} (hf : r.fam = H.next) : WF0 (H.push r) := by
  refine ⟨fun id o ho => ?_, fun id r' hr => ?_, fun id id' r1 r2 h1 h2 hff hro z1 z2 => ?_⟩
  · rw [AH.get_push] at ho
    rw [AH.push_next]
    split at ho
    · omega
    · have := hw.lt id o ho; omega
  · rw [AH.get_push] at hr
    rw [AH.push_next]
    split at hr
    · cases hr; omega
    · have := hw.fam id r' hr; omega
  · rw [AH.get_push] at h1 h2
    split at h1 <;> split at h2
    · cases h1; cases h2; rfl
    · cases h1; have := hw.fam id' r2 h2; omega
    · cases h2; have := hw.fam id r1 h1; omega
    · exact hw.esz id id' r1 r2 h1 h2 hff hro z1 z2

theorem frame_push (hw : WF0 H) (r : Row) (hfm : H.next ≤ r.fam) : Frame (ctx e tk H) (H.push r) := by
  have hs : ∀ id o, H.get id = some o → (H.push r).get id = some o := fun id o ho => by
    rw [AH.get_push, if_neg (by have := hw.lt id o ho; omega)]; exact ho
  exact ⟨by rw [AH.push_next]; exact Nat.le_succ _, fun id r' hr _ => ⟨r', hs id _ hr, Meta.refl r', fun _ _ => rfl, fun _ => rfl⟩, fun id o ho _ _ => hs id o ho, fun id h1 h2 => by rw [AH.get_push, if_neg (by have h1' : id < H.next := h1; omega)]; exact h2, fun id r' hr' => by
    rw [AH.get_push] at hr'
    split at hr'
    · cases hr'; exact .inr hfm
    · exact .inl ⟨id, r', hr', rfl⟩⟩

theorem get_app {α : Type} {l : List α} {x y : α} {k : Nat} (h : (l ++ [x])[k]? = some y) : (k < l.length ∧ l[k]? = some y) ∨ (k = l.length ∧ y = x) := by
  by_cases hk : k < l.length
  · rw [List.getElem?_append_left hk] at h; exact .inl ⟨hk, h⟩
  · rw [List.getElem?_append_right (by omega)] at h
    have : k - l.length = 0 := by
      rcases Nat.eq_zero_or_pos (k - l.length) with h' | h'
      · exact h'
      · rw [List.getElem?_eq_none (by simp; omega)] at h; cases h
    rw [this] at h
    simp at h
    exact .inr ⟨by omega, h.symm⟩

theorem get_app_new {α : Type} {l : List α} {x : α} : (l ++ [x])[l.length]? = some x := by simp
theorem get_app_old {α : Type} {l m : List α} {x : α} {k : Nat} (h : l[k]? = some x) : (l ++ m)[k]? = some x := by rw [List.getElem?_append_left (lt_of_get h)]; exact h

def newR (ty : TypeId) (fam esz : Nat) (vs : List Value) : Row := { cells := vs.map some, ty := ty, fam := fam, disp := 0, esz := esz, ro := false, solo := true }

/-! ### A new row of one's own -/
def Env.row (e : Env) (id : Nat) : Env := { e with rows := e.rows ++ [id] }

theorem step_row (h : HInv e fr tk H) {ps : List PV} {vs : List Value} (hv : L2 (RV e tk H true) ps vs) (ty : TypeId) (esz : Nat) (hz : esz ≠ mapE) :
    Step e tk H (e.row H.next) (fr ++ [⟨esz, ps⟩]) tk (H.push (newR ty H.next esz vs)) := by
  have hx : Extn (ctx e tk H) (e.row H.next) tk := ⟨⟨[H.next], rfl, by simp [ctx]⟩, fun t τ ht => .inl ht, fun t τ ht => ht, fun t n ht => ⟨n, ht, Nat.le_refl _, fun _ => rfl⟩⟩
  have hf := frame_push (e := e) (tk := tk) h.wf (newR ty H.next esz vs) (Nat.le_refl _)
  have g := grow_of hx hf rfl h.tlen
  refine ⟨⟨wf_push h.wf rfl, by simp [Env.row, h.rlen], fun i j id hi hj => ?_, fun k id R hk hR => ?_, h.tlen, h.tsep, fun t τ ht => by rw [AH.push_next]; have := h.tlt t τ ht; omega, fun t τ ht hm => ?_⟩, hx, hf, rfl⟩
  · rcases get_app hi with ⟨_, h1⟩ | ⟨rfl, rfl⟩ <;> rcases get_app hj with ⟨_, h2⟩ | ⟨rfl, h3⟩
    · exact h.rnd i j id h1 h2
    · subst h3; exact absurd (List.mem_of_getElem? h1) h.nnext
    · exact absurd (List.mem_of_getElem? h2) h.nnext
    · rfl
  · rcases get_app hk with ⟨h0, h1⟩ | ⟨rfl, rfl⟩
    · rw [List.getElem?_append_left (by rw [← h.rlen]; exact h0)] at hR
      obtain ⟨o, h2, _⟩ := (h.row k id R h1 hR).here
      exact (h.row k id R h1 hR).stay rfl (by rw [AH.get_push, if_neg (by have := h.wf.lt id _ h2; omega)]) fun us h8 => h8.grow g
    · rw [h.rlen, get_app_new] at hR
      cases hR
      exact .inl ⟨hz, _, vs, get_push_new, rfl, rfl, rfl, rfl, rfl, hv.grow g⟩
  · rcases List.mem_append.1 hm with k | k
    · exact h.tfr t τ ht k
    · simp at k; have := h.tlt t τ ht; omega

/-! ### A store into a row of one's own -/
theorem frame_set {k id : Nat} {o : AO} (hk : e.rows[k]? = some id) {r : Row} (hr : H.get id = some (.row r)) (hfm : ∀ r', o = .row r' → r'.fam = r.fam) : Frame (ctx e tk H) (H.set id o) := by
  refine ⟨Nat.le_refl _, fun j r' hr' hj => ⟨r', ?_, Meta.refl r', fun _ _ => rfl, fun _ => rfl⟩, fun j o' ho hn _ => ?_, fun j _ h2 => by rw [AH.get_set, if_neg (fun e1 => by subst e1; have h2' : H.get j = none := h2; rw [hr] at h2'; cases h2')]; exact h2, fun j r' hj => by
    rw [AH.get_set] at hj
    split at hj
    · cases hj; exact .inl ⟨id, r, hr, (hfm _ rfl).symm⟩
    · exact .inl ⟨j, r', hj, rfl⟩⟩
  · rw [AH.get_set, if_neg (fun e1 => hj (by subst e1; exact List.mem_of_getElem? hk))]; exact hr'
  · rw [AH.get_set, if_neg (fun e1 => by subst e1; have ho' : H.get j = some o' := ho; rw [hr] at ho'; cases ho'; exact hn r rfl)]; exact ho

theorem step_set (h : HInv e fr tk H) {k id : Nat} (hk : e.rows[k]? = some id) {R : PRow} (hR : fr[k]? = some R) {r : Row} (hr : H.get id = some (.row r)) {ps : List PV} {vs : List Value} (hv : L2 (RV e tk H true) ps vs) :
    Step e tk H e (fr.set k ⟨R.esz, ps⟩) tk (H.set id (.row { r with cells := vs.map some })) := by
  have hf := frame_set (tk := tk) (o := .row { r with cells := vs.map some }) hk hr (fun r' e1 => by cases e1; rfl)
  have g := grow_of (Extn.refl e tk H) hf rfl h.tlen
  refine ⟨⟨⟨fun j o ho => ?_, fun j r' hr' => ?_, esz_of h.wf fun j r' hr' => ?_⟩, by simp [h.rlen], h.rnd, fun j jd R' hj hR' => ?_, h.tlen, h.tsep, h.tlt, h.tfr⟩, Extn.refl e tk H, hf, rfl⟩
  · rw [AH.get_set] at ho
    split at ho
    · rename_i e1; subst e1; exact h.wf.lt _ _ hr
    · exact h.wf.lt _ _ ho
  · rw [AH.get_set] at hr'
    split at hr'
    · rename_i e1; subst e1; cases hr'; exact (h.wf.fam _ _ hr : r.fam < H.next)
    · exact h.wf.fam _ _ hr'
  · rw [AH.get_set] at hr'
    split at hr'
    · cases hr'; exact .inr ⟨id, r, hr, rfl, rfl, rfl⟩
    · exact .inr ⟨j, r', hr', rfl, rfl, rfl⟩
  · by_cases e1 : j = k
    · subst e1
      rw [hk] at hj; cases hj
      rw [List.getElem?_set_self (lt_of_get hR)] at hR'
      cases hR'
      rcases h.row j id R hk hR with ⟨h0, r2, us, h2, h3, h4, h5, h6, h7, h8⟩ | ⟨_, es, c, _, _, h2, _⟩
      · rw [hr] at h2; cases h2
        exact .inl ⟨h0, { r with cells := vs.map some }, vs, by rw [AH.get_set, if_pos rfl], h3, h4, h5, h6, rfl, hv.grow g⟩
      · rw [hr] at h2; cases h2
    · rw [List.getElem?_set_ne (Ne.symm e1)] at hR'
      exact (h.row j jd R' hj hR').stay rfl (by rw [AH.get_set, if_neg (fun e2 => e1 (h.rnd j k jd hj (by rw [e2]; exact hk)))]) fun us h8 => h8.grow g

/-! ### A new list that may grow -/
def Env.tok (e : Env) (τ : Option Tk) : Env := { e with toks := e.toks ++ [τ] }

/-- a list's elements, as they lie -/
def Lies (e : Env) (tk : List Nat) (H : AH) (sz : Nat) (l : List (List PV)) (vs : List Value) : Prop :=
  vs.length = l.length * sz ∧ (∀ (i : Nat) (cs : List PV), l[i]? = some cs → cs.length = sz) ∧ (∀ (i : Nat) (cs : List PV) (j : Nat) (p : PV), l[i]? = some cs → cs[j]? = some p → p.plain = true) ∧
  ∀ (i : Nat) (cs : List PV) (j : Nat) (p : PV), l[i]? = some cs → cs[j]? = some p → ∃ v, vs[i * sz + j]? = some v ∧ RV e tk H false p v

theorem Lies.grow {e' : Env} {tk' : List Nat} {H' : AH} (g : Grow e tk H e' tk' H') {sz : Nat} {l : List (List PV)} {vs : List Value} (h : Lies e tk H sz l vs) : Lies e' tk' H' sz l vs :=
  ⟨h.1, h.2.1, h.2.2.1, fun i cs j p hi hj => let ⟨v, h1, h2⟩ := h.2.2.2 i cs j p hi hj; ⟨v, h1, h2.grow g⟩⟩

/-- the list that lies in a row -/
theorem RV.mkList {sz : Nat} {l : List (List PV)} {t : Option Nat} {id off c : Nat} {r : Row} {vs : List Value} (hl : Lies e tk H sz l vs) (hr : H.get id = some (.row r)) (hs : Stay e tk H id r.fam (r.disp + (off + l.length * sz))) (he : r.esz = sz) (hc : l.length ≤ c)
    (hv : ∀ (x : Nat) (v : Value), vs[x]? = some v → r.cells[off + x]? = some (some v)) (hw : off + l.length * sz ≤ r.cells.length) (ht : ∀ k, t = some k → Linked e tk sz r off l.length c k) : RV e tk H true (.list sz l t) (.slice (some ⟨id, off, none⟩) l.length c) := by
  refine .list (fun i j => (vs[i * sz + j]?).getD undef) hr (Nat.le_refl _) hs he hc hw hl.2.1 hl.2.2.1 (fun i cs j p hi hj => ?_) (fun i cs j p hi hj => ?_) fun k hk => ⟨rfl, ht k hk⟩
  · obtain ⟨v, h1, h2⟩ := hl.2.2.2 i cs j p hi hj
    rw [h1, show off + i * sz + j = off + (i * sz + j) by omega, hv _ _ h1]; rfl
  · obtain ⟨v, h1, h2⟩ := hl.2.2.2 i cs j p hi hj
    rw [h1]; exact h2

theorem step_list (h : HInv e fr tk H) (hX : XC e H) {sz : Nat} {l : List (List PV)} {vs : List Value} (hl : Lies e tk H sz l vs) (ty : TypeId) :
    Step e tk H (e.tok (some ⟨H.next, 0, sz⟩)) fr (tk ++ [l.length]) (H.push (newR ty H.next sz vs)) ∧
    RV (e.tok (some ⟨H.next, 0, sz⟩)) (tk ++ [l.length]) (H.push (newR ty H.next sz vs)) true (.list sz l (some tk.length)) (.slice (some ⟨H.next, 0, none⟩) l.length l.length) := by
  have hx : Extn (ctx e tk H) (e.tok (some ⟨H.next, 0, sz⟩)) (tk ++ [l.length]) := by
    refine ⟨⟨[], by simp [ctx, Env.tok], by simp⟩, fun t τ ht => ?_, fun t τ ht => get_app_old ht, fun t n ht => ⟨n, get_app_old ht, Nat.le_refl _, fun _ => ?_⟩⟩
    · rcases get_app ht with ⟨_, h1⟩ | ⟨_, h1⟩
      · exact .inl h1
      · cases h1; exact .inr (Nat.le_refl _)
    · show (e.toks ++ [some _])[t]? = e.toks[t]?
      rw [List.getElem?_append_left (by rw [h.tlen]; exact lt_of_get ht)]
  have hf := frame_push (e := e) (tk := tk) h.wf (newR ty H.next sz vs) (Nat.le_refl _)
  have g := grow_of hx hf rfl h.tlen
  have hw := wf_push h.wf (r := newR ty H.next sz vs) rfl
  refine ⟨⟨⟨hw, h.rlen, h.rnd, fun k id R hk hR => ?_, by simp [Env.tok, h.tlen], fun t t' τ τ' ht ht' hf => ?_, fun t τ ht => ?_, fun t τ ht hm => ?_⟩, hx, hf, rfl⟩, ?_⟩
  · obtain ⟨o, h2, _⟩ := (h.row k id R hk hR).here
    exact (h.row k id R hk hR).stay rfl (by rw [AH.get_push, if_neg (by have := h.wf.lt id _ h2; omega)]) fun us h8 => h8.grow g
  · rcases get_app ht with ⟨_, h1⟩ | ⟨h0, h1⟩ <;> rcases get_app ht' with ⟨_, h2⟩ | ⟨h3, h2⟩
    · exact h.tsep t t' τ τ' h1 h2 hf
    · cases h2; have := h.tlt t τ h1; simp only at hf; omega
    · cases h1; have := h.tlt t' τ' h2; simp only at hf; omega
    · omega
  · rw [AH.push_next]
    rcases get_app ht with ⟨_, h1⟩ | ⟨h0, h1⟩
    · have := h.tlt t τ h1; omega
    · cases h1; exact Nat.lt_succ_self _
  · rcases get_app ht with ⟨_, h1⟩ | ⟨h0, h1⟩
    · exact h.tfr t τ h1 hm
    · cases h1; exact h.nnext hm
  · refine RV.mkList (vs := vs) (hl.grow g) get_push_new ⟨by rw [AH.push_next]; omega, by rw [AH.push_next]; exact Nat.lt_succ_self _, hX.new _ _ _ (Nat.le_refl _) (Nat.le_refl _), h.nnext, fun t τ n ht hn hf => ?_⟩ rfl (Nat.le_refl _) (fun x v hv => ?_) ?_ (fun k hk => ?_)
    · rcases get_app ht with ⟨_, h1⟩ | ⟨h0, h1⟩
      · have := h.tlt t τ h1; simp only [newR] at hf; omega
      · cases h1
        rw [h0, h.tlen, get_app_new] at hn
        cases hn
        simp [newR]
    · show (vs.map some)[0 + x]? = _
      rw [Nat.zero_add, List.getElem?_map, hv]; rfl
    · show 0 + l.length * sz ≤ (vs.map some).length
      rw [List.length_map, hl.1]; omega
    · cases hk
      refine ⟨l.length, get_app_new, Nat.le_refl _, fun _ => ⟨⟨H.next, 0, sz⟩, ?_, rfl, rfl, rfl, rfl, rfl⟩⟩
      show (e.toks ++ [_])[tk.length]? = _
      rw [← h.tlen]; exact get_app_new

end
end Go.Eng
