/-
  Appends: what comes of them.
-/
import Derived.Test.YtjobmgleekphjaaM4
set_option linter.unusedSimpArgs false
set_option linter.unusedVariables false
namespace Go.Eng
noncomputable section
variable {P : Program} {e : Env} {fr : List PRow} {tk : List Nat} {H : AH}

def Env.setTok (e : Env) (k : Nat) (τ : Tk) : Env := { e with toks := e.toks.set k (some τ) }

theorem get_set_cases {α : Type} {l : List α} {k t : Nat} {x y : α} (h : (l.set k x)[t]? = some y) : (t = k ∧ y = x) ∨ (t ≠ k ∧ l[t]? = some y) := by
  by_cases e1 : t = k
  · subst e1
    rw [List.getElem?_set_self (by have := lt_of_get h; simpa using this)] at h
    cases h; exact .inl ⟨rfl, rfl⟩
  · rw [List.getElem?_set_ne (Ne.symm e1)] at h; exact .inr ⟨e1, h⟩

theorem step_fill (h : HInv e fr tk H) (hX : XC e H) {sz : Nat} {m : List (List PV)} {k : Nat} {new : List Value} (ht : e.toks[k]? = some none) (hn : tk[k]? = some 0) (hm : Lies e tk H sz m new) (hm0 : m.length ≠ 0) (ty : TypeId) :
    Step e tk H (e.setTok k ⟨H.next, 0, sz⟩) fr (tk.set k m.length) (H.push (newR ty H.next sz new)) ∧
    RV (e.setTok k ⟨H.next, 0, sz⟩) (tk.set k m.length) (H.push (newR ty H.next sz new)) true (.list sz m (some k)) (.slice (some ⟨H.next, 0, none⟩) m.length m.length) := by
  have hkl : k < tk.length := lt_of_get hn
  have hkt : k < e.toks.length := lt_of_get ht
  have hx : Extn (ctx e tk H) (e.setTok k ⟨H.next, 0, sz⟩) (tk.set k m.length) := by
    refine ⟨⟨[], by simp [ctx, Env.setTok], by simp⟩, fun t τ h1 => ?_, fun t τ h1 => ?_, fun t n (hq : tk[t]? = some n) => ?_⟩
    · rcases get_set_cases h1 with ⟨_, h2⟩ | ⟨_, h2⟩
      · cases h2; exact .inr (Nat.le_refl _)
      · exact .inl h2
    · have h1' : e.toks[t]? = some (some τ) := h1
      show (e.toks.set k _)[t]? = _
      rw [List.getElem?_set_ne (fun e1 => by subst e1; rw [ht] at h1'; cases h1')]; exact h1'
    · by_cases e1 : t = k
      · rw [e1, hn] at hq; cases hq
        exact ⟨m.length, by rw [e1]; exact List.getElem?_set_self hkl, Nat.zero_le _, fun e2 => absurd e2 hm0⟩
      · exact ⟨n, by rw [List.getElem?_set_ne (Ne.symm e1)]; exact hq, Nat.le_refl _, fun _ => by show (e.toks.set k _)[t]? = e.toks[t]?; rw [List.getElem?_set_ne (Ne.symm e1)]⟩
  have hf := frame_push (e := e) (tk := tk) h.wf (newR ty H.next sz new)
  have g := grow_of hx hf rfl h.tlen
  have hw := wf_push h.wf (r := newR ty H.next sz new) (Nat.le_refl _)
  refine ⟨⟨⟨hw, h.rlen, h.rnd, fun k id R hk hR => ?_, by simp [Env.setTok, h.tlen], fun t t' τ τ' ht ht' hf => ?_, fun t τ ht => ?_, fun t τ ht hm => ?_⟩, hx, hf, rfl⟩, ?_⟩
  · obtain ⟨r, us, h2, h3, h4, h5, h6, h7, h8⟩ := h.row k id R hk hR
    exact ⟨r, us, by rw [AH.get_push, if_neg (by have := h.wf.lt id _ h2; omega)]; exact h2, h3, h4, h5, h6, h7, h8.grow g⟩
  · rcases get_set_cases ht with ⟨h0, h1⟩ | ⟨_, h1⟩ <;> rcases get_set_cases ht' with ⟨h3, h2⟩ | ⟨_, h2⟩
    · omega
    · cases h1; have := h.tlt t' τ' h2; simp only at hf; omega
    · cases h2; have := h.tlt t τ h1; simp only at hf; omega
    · exact h.tsep t t' τ τ' h1 h2 hf
  · rw [AH.push_next]
    rcases get_set_cases ht with ⟨h0, h1⟩ | ⟨_, h1⟩
    · cases h1; exact Nat.lt_succ_self _
    · have := h.tlt t τ h1; omega
  · rcases get_set_cases ht with ⟨h0, h1⟩ | ⟨_, h1⟩
    · cases h1; exact h.nnext hm
    · exact h.tfr t τ h1 hm
  · refine RV.mkList (vs := new) (hm.grow g) get_push_new ⟨by rw [AH.push_next]; omega, by rw [AH.push_next]; exact Nat.lt_succ_self _, hX.new _ _ _ (Nat.le_refl _) (Nat.le_refl _), h.nnext, fun t τ n ht hn hf => ?_⟩ rfl (Nat.le_refl _) (fun x v hv => ?_) ?_ (fun k' hk => ?_)
    · rcases get_set_cases ht with ⟨h0, h1⟩ | ⟨_, h1⟩
      · cases h1
        rw [h0, List.getElem?_set_self hkl] at hn
        cases hn
        simp [newR]
      · have := h.tlt t τ h1; simp only [newR] at hf; omega
    · show (new.map some)[0 + x]? = _
      rw [Nat.zero_add, List.getElem?_map, hv]; rfl
    · show 0 + m.length * sz ≤ (new.map some).length
      rw [List.length_map, hm.1]; omega
    · cases hk
      refine ⟨m.length, List.getElem?_set_self hkl, Nat.le_refl _, fun _ => ⟨⟨H.next, 0, sz⟩, ?_, rfl, rfl, rfl, rfl, rfl⟩⟩
      exact List.getElem?_set_self hkt

theorem Lies.plain {sz : Nat} {m : List (List PV)} {new : List Value} (hm : Lies e tk H sz m new) : new.all plainCell = true := by
  rw [List.all_eq_true]
  intro v hv
  obtain ⟨x, hx, rfl⟩ := List.mem_iff_getElem.1 hv
  have hx' : x < m.length * sz := by rw [← hm.1]; exact hx
  have hsz : 0 < sz := by
    rcases Nat.eq_zero_or_pos sz with h | h
    · rw [h, Nat.mul_zero] at hx'; omega
    · exact h
  have hi : x / sz < m.length := (Nat.div_lt_iff_lt_mul hsz).2 hx'
  obtain ⟨cs, hcs⟩ := get_of_lt hi
  obtain ⟨p, hp⟩ := get_of_lt (l := cs) (i := x % sz) (by rw [hm.2.1 _ _ hcs]; exact Nat.mod_lt _ hsz)
  obtain ⟨w, h1, h2⟩ := hm.2.2.2 _ _ _ _ hcs hp
  rw [show x / sz * sz + x % sz = x by rw [Nat.mul_comm]; exact Nat.div_add_mod x sz, List.getElem?_eq_getElem hx] at h1
  cases h1
  exact plain_of h2 (hm.2.2.1 _ _ _ _ hcs hp)

/-! ### What is appended -/
theorem takeK_fn : ∀ (N : Nat) (cells : List (Option Value)) (f : Nat → Value), (∀ x, x < N → cells[x]? = some (some (f x))) → takeK cells N = .ok ((List.range N).map f)
  | 0, cells, f, _ => by cases cells <;> rfl
  | N + 1, cells, f, h => by
    have h0 := h 0 (by omega)
    cases cells with
    | nil => simp at h0
    | cons c l =>
      simp at h0
      subst h0
      show (takeK l N >>= fun x => Except.ok (f 0 :: x)) = _
      rw [takeK_fn N l (fun x => f (x + 1)) (fun x hx => by have := h (x + 1) (by omega); simpa using this)]
      rw [List.range_succ_eq_map]
      simp [bind, Except.bind, Function.comp_def]

theorem lies_list {b : Bool} {sz : Nat} {m : List (List PV)} {t : Option Nat} {v : Value} (h : RV e tk H b (.list sz m t) v) : v = .slice none 0 0 ∧ m = [] ∨ ∃ id off c r new, v = .slice (some ⟨id, off, none⟩) m.length c ∧ H.get id = some (.row r) ∧ m.length ≤ c ∧ r.esz = sz ∧
    takeK (r.cells.drop off) (m.length * sz) = .ok new ∧ Lies e tk H sz m new ∧ off + m.length * sz ≤ r.cells.length ∧ (∃ n, off + m.length * sz ≤ n ∧ Stay e tk H id r.fam (r.disp + n)) ∧ ∀ k, t = some k → Linked e tk sz r off m.length c k := by
  cases h with
  | lnil ht => exact .inl ⟨rfl, rfl⟩
  | @list _ _ _ _ id off c n r w hr hn hs he hc hw hz hp hv hh ht =>
    refine .inr ⟨id, off, c, r, _, rfl, hr, hc, he, takeK_fn _ _ (fun x => w (x / sz) (x % sz)) (fun x hx => ?_), ⟨by simp, hz, hp, fun i cs j p hi hj => ?_⟩, hw, ⟨n, hn, hs⟩, fun k hk => (ht k hk).2⟩
    · have hsz : 0 < sz := by
        rcases Nat.eq_zero_or_pos sz with h | h
        · rw [h, Nat.mul_zero] at hx; omega
        · exact h
      have hi : x / sz < m.length := (Nat.div_lt_iff_lt_mul hsz).2 hx
      obtain ⟨cs, hcs⟩ := get_of_lt hi
      obtain ⟨p, hp'⟩ := get_of_lt (l := cs) (i := x % sz) (by rw [hz _ _ hcs]; exact Nat.mod_lt _ hsz)
      rw [List.getElem?_drop]
      have h1 := hv _ _ _ _ hcs hp'
      rw [show off + x / sz * sz + x % sz = off + x by have := Nat.div_add_mod x sz; rw [Nat.mul_comm] at this; omega] at h1
      exact h1
    · have hj' : j < sz := by rw [← hz i cs hi]; exact lt_of_get hj
      have hx := mul_at (lt_of_get hi) hj'
      refine ⟨w i j, ?_, hh i cs j p hi hj⟩
      rw [List.getElem?_map, List.getElem?_range hx]
      simp only [Option.map_some]
      rw [show (i * sz + j) / sz = i by rw [Nat.mul_comm, Nat.mul_add_div (by omega), Nat.div_eq_of_lt hj']; rfl, show (i * sz + j) % sz = j by rw [Nat.mul_comm, Nat.mul_add_mod, Nat.mod_eq_of_lt hj']]

theorem appended_list {b : Bool} {sz el : Nat} {m : List (List PV)} {t : Option Nat} {v : Value} (h : RV e tk H b (.list sz m t) v) (hs : tSize P el = .ok sz) : ∃ new, appended P H el false v = .ok (new, m.length) ∧ Lies e tk H sz m new := by
  rcases lies_list h with ⟨rfl, rfl⟩ | ⟨id, off, c, r, new, rfl, hr, hc, he, ht, hl, _⟩
  · refine ⟨[], ?_, ⟨by simp, fun i cs hi => by simp at hi, fun i cs j p hi => by simp at hi, fun i cs j p hi => by simp at hi⟩⟩
    unfold appended; simp only [hs, bind, Except.bind]; rfl
  · refine ⟨new, ?_, hl⟩
    unfold appended
    simp only [hs, bind, Except.bind, Bool.false_eq_true, if_false]
    have : readRow H id off (m.length * sz) = .ok new := by
      unfold readRow
      split
      · rename_i h0
        rw [h0] at ht
        rw [← ht]
        cases (List.drop off r.cells) <;> rfl
      · have hrow : H.row id = .ok r := by unfold AH.row; rw [hr]
        simp only [hrow, bind, Except.bind]; exact ht
    rw [this]

theorem append_ok (h : HInv e fr tk H) (hX : XC e H) {t u el sz bytes : Nat} {xv v : Value} {new : List Value} {zs : List Value} {z : Bool} {l m : List (List PV)} {k : Nat}
    (ht : P.underlying t = some (.slice el)) (hu : tZeros P (some u) = .ok z) (hs : tSize P el = .ok sz) (hb : tBytes P el = .ok bytes) (hz : tZero P el = .ok zs) (hs0 : Nat.beq sz 0 = false) (hb0 : Nat.beq bytes 0 = false)
    (hl : RV e tk H true (.list sz l (some k)) v) (hn : tk[k]? = some l.length) (hx : appended P H el z xv = .ok (new, m.length)) (hm : Lies e tk H sz m new) (hbig : (5 * (l.length + m.length) + 768) * bytes ≤ 1125899906842624) :
    ∃ e' H' v', aAppend P H t (some u) v xv = .ok (v', H') ∧ Step e tk H e' fr (tk.set k (l.length + m.length)) H' ∧ RV e' (tk.set k (l.length + m.length)) H' true (.list sz (l ++ m) (some k)) v' ∧ ∀ (j jd : Nat), e.rows[j]? = some jd → H'.get jd = H.get jd := by
  by_cases hm0 : m.length = 0
  · have hmn : m = [] := List.eq_nil_of_length_eq_zero hm0
    subst hmn
    have hset : tk.set k (l.length + 0) = tk := by
      apply List.ext_getElem?
      intro i
      by_cases e1 : i = k
      · subst e1; rw [List.getElem?_set_self (lt_of_get hn), hn]; rfl
      · rw [List.getElem?_set_ne (Ne.symm e1)]
    refine ⟨e, H, v, append_zero ht hu hs hb hx ?_, ?_, ?_, fun _ _ _ => rfl⟩
    · rcases lies_list hl with ⟨rfl, _⟩ | ⟨id, off, c, r, nw, rfl, _, hc, _⟩
      · exact .inl rfl
      · exact .inr ⟨_, _, _, rfl, hc⟩
    · rw [List.length_nil, hset]; exact Step.refl h
    · rw [List.length_nil, hset, List.append_nil]; exact hl
  · rcases lies_list hl with ⟨rfl, rfl⟩ | ⟨id, off, c, r, nw, rfl, hr, hc, he, htk, hli, hlen, hst, hlink⟩
    · cases hl with
      | lnil hlt =>
        obtain ⟨_, n, h1, h2⟩ := hlt k rfl
        have hn0 : n = 0 := by rw [h1] at hn; cases hn; rfl
        subst hn0
        obtain ⟨s1, s2⟩ := step_fill h hX (h2 rfl) h1 hm hm0 el
        refine ⟨e.setTok k ⟨H.next, 0, sz⟩, H.push (newR el H.next sz new), .slice (some ⟨H.next, 0, none⟩) m.length m.length, append_nil ht hu hs hb hz hs0 hb0 hx hm0 (by simpa using hbig), ?_, ?_, fun j jd hj => ?_⟩
        · simpa using s1
        · simpa using s2
        · rw [AH.get_push, if_neg (fun e1 => h.nnext (by rw [← e1]; exact List.mem_of_getElem? hj))]
    · obtain ⟨n, h1, h2, h3⟩ := hlink k rfl
      have hn' : n = l.length := by rw [h1] at hn; cases hn; rfl
      subst hn'
      obtain ⟨τ, k1, k2, k3, k4, k5, k6⟩ := h3 rfl
      subst k6
      obtain ⟨s1, s2, s3⟩ := step_grow h hX hl h1 hr k1 k2 k3 k4 hm hm0
      exact ⟨e, _, _, append_own ht hu hs hb hz hs0 hb0 hr k5 he hlen hx hm0 hbig hm.plain, s1, s2, s3⟩

end
end Go.Eng
