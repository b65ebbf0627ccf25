/-
  Appends, where a list may grow.
-/
import Derived.Test.YtjobmgleekphjaaM3
set_option linter.unusedSimpArgs false
set_option linter.unusedVariables false
namespace Go.Eng
noncomputable section
variable {P : Program} {e : Env} {fr : List PRow} {tk : List Nat} {H : AH}

theorem readied_get (H : AH) (id : Nat) (r : Row) (lo n j : Nat) (hr : H.get id = some (.row r)) :
    (H.readied id r lo n).next = H.next ∧
    (∀ o, H.get j = some o → (∀ r, o ≠ .row r) → (H.readied id r lo n).get j = some o) ∧
    (∀ o, (H.readied id r lo n).get j = some o → ∃ o', H.get j = some o' ∧ ((∀ r, o' ≠ .row r) → o' = o) ∧ (∀ r', o = .row r' → ∃ r0, o' = .row r0 ∧ r'.fam = r0.fam)) ∧
    ∀ r0, H.get j = some (.row r0) → ∃ r', (H.readied id r lo n).get j = some (.row r') ∧ Meta r0 r' ∧ (r0.fam ≠ r.fam → r' = r0) ∧ ∀ p, r0.disp + p < lo → r'.cells[p]? = r0.cells[p]? := by
  unfold AH.readied
  cases hso : r.solo with
  | true =>
    simp only [if_true]
    refine ⟨rfl, fun o ho hn => ?_, fun o ho => ?_, fun r0 h0 => ?_⟩
    · rw [AH.get_set, if_neg (fun e => by subst e; rw [hr] at ho; cases ho; exact hn r rfl)]; exact ho
    · rw [AH.get_set] at ho
      split at ho
      · rename_i e1; subst e1; cases ho; exact ⟨_, hr, fun hn => absurd rfl (hn r), fun r' e => ⟨r, rfl, by cases e; rfl⟩⟩
      · exact ⟨o, ho, fun _ => rfl, fun r' e => ⟨r', e, rfl⟩⟩
    · rw [AH.get_set]
      by_cases e : j = id
      · subst e
        rw [hr] at h0; cases h0
        rw [if_pos rfl]
        refine ⟨_, rfl, ⟨rfl, rfl, rfl, rfl, rfl, Row.length_blur _ _ _⟩, fun hn => absurd rfl hn, fun p hp => ?_⟩
        show (r.blur lo (lo + n)).cells[p]? = _
        rw [Row.get_blur]
        cases r.cells[p]? with
        | none => rfl
        | some c => simp only [Option.map_some]; rw [if_neg (by omega)]
      · rw [if_neg e]
        exact ⟨r0, h0, Meta.refl r0, fun _ => rfl, fun _ _ => rfl⟩
  | false =>
    simp only [Bool.false_eq_true, if_false]
    refine ⟨rfl, fun o ho hn => ?_, fun o ho => ?_, fun r0 h0 => ?_⟩
    · rw [AH.get_blur, ho]
      cases o with
      | row r => exact absurd rfl (hn r)
      | _ => rfl
    · rw [AH.get_blur] at ho
      cases hj : H.get j with
      | none => rw [hj] at ho; cases ho
      | some o' =>
        rw [hj] at ho
        simp only [Option.map_some, Option.some.injEq] at ho
        refine ⟨o', rfl, fun hn => ?_, fun r' e => ?_⟩
        · cases o' with
          | row r => exact absurd rfl (hn r)
          | _ => exact ho
        · subst e
          cases o' with
          | row r0 =>
            refine ⟨r0, rfl, ?_⟩
            simp only [AO.blur] at ho
            split at ho
            · cases ho; rfl
            · cases ho; rfl
          | _ => cases ho
    · rw [AH.get_blur, h0]
      simp only [Option.map_some, AO.blur]
      split
      · refine ⟨_, rfl, ⟨rfl, rfl, rfl, rfl, rfl, Row.length_blur _ _ _⟩, fun hn => absurd (by assumption) hn, fun p hp => ?_⟩
        rw [Row.get_blur]
        cases r0.cells[p]? with
        | none => rfl
        | some c => simp only [Option.map_some]; rw [if_neg (by omega)]
      · exact ⟨r0, rfl, Meta.refl r0, fun _ => rfl, fun _ _ => rfl⟩

def growR (r : Row) (off n sz : Nat) (new : List Value) : Row := { cells := (r.cells.drop off).take (n * sz) ++ new.map some, ty := r.ty, fam := r.fam, disp := r.disp + off, esz := sz, ro := false, solo := false }

theorem append_own {t u el sz bytes id off n m : Nat} {H : AH} {x : Value} {r : Row} {new : List Value} {zs : List Value} {z : Bool}
    (ht : P.underlying t = some (.slice el)) (hu : tZeros P (some u) = .ok z) (hs : tSize P el = .ok sz) (hb : tBytes P el = .ok bytes) (hz : tZero P el = .ok zs) (hs0 : Nat.beq sz 0 = false) (hb0 : Nat.beq bytes 0 = false)
    (hr : H.get id = some (.row r)) (hro : r.ro = false) (hesz : r.esz = sz) (hlen : off + n * sz ≤ r.cells.length) (hx : appended P H el z x = .ok (new, m)) (hm : m ≠ 0) (hbig : (5 * (n + m) + 768) * bytes ≤ 1125899906842624)
    (hpl : new.all plainCell = true) :
    aAppend P H t (some u) (.slice (some ⟨id, off, none⟩) n n) x = .ok (.slice (some ⟨H.next, 0, none⟩) (n + m) (n + m), (H.readied id r (r.disp + off + n * sz) new.length).push (growR r off n sz new)) := by
  have h1 : ¬ m * bytes > 281474976710656 := by
    have : (4 * m) * bytes ≤ (5 * (n + m) + 768) * bytes := Nat.mul_le_mul_right _ (by omega)
    rw [Nat.mul_assoc] at this
    omega
  have h2 : ¬ (sz = 0 ∨ bytes = 0) := by
    rintro (e | e)
    · subst e; cases hs0
    · subst e; cases hb0
  have h3 : ¬ n + m ≤ n := by omega
  have hrow : H.row id = .ok r := by unfold AH.row; rw [hr]
  have hnx : (H.readied id r (r.disp + off + n * sz) new.length).next = H.next := (readied_get H id r _ _ 0 hr).1
  have hnew := AH.new_push (H := H.readied id r (r.disp + off + n * sz) new.length) (r := growR r off n sz new)
  rw [hnx] at hnew
  have htk : takeU (List.drop off r.cells) (n * sz) = .ok ((r.cells.drop off).take (n * sz)) := by
    unfold takeU
    rw [if_pos (by rw [List.length_drop]; omega)]
  unfold aAppend
  simp only [ht, hu, hs, hb, hx, bind, Except.bind, if_neg h1, if_neg hm, if_neg h2, hz, hrow, hro, Bool.false_eq_true, if_false, if_neg h3, if_pos hbig, hpl, Bool.not_true, hesz, ne_eq, not_true_eq_false, htk]
  have e : (if r.solo = true then H.set id (.row { (r.blur (r.disp + off + n * sz) (r.disp + off + n * sz + new.length)) with solo := false }) else H.blur r.fam (r.disp + off + n * sz) (r.disp + off + n * sz + new.length)) = H.readied id r (r.disp + off + n * sz) new.length := rfl
  rw [e]
  unfold growR at hnew ⊢
  rw [hnew]

theorem append_nil {t u el sz bytes m : Nat} {H : AH} {x : Value} {new : List Value} {zs : List Value} {z : Bool}
    (ht : P.underlying t = some (.slice el)) (hu : tZeros P (some u) = .ok z) (hs : tSize P el = .ok sz) (hb : tBytes P el = .ok bytes) (hz : tZero P el = .ok zs) (hs0 : Nat.beq sz 0 = false) (hb0 : Nat.beq bytes 0 = false)
    (hx : appended P H el z x = .ok (new, m)) (hm : m ≠ 0) (hbig : (5 * m + 768) * bytes ≤ 1125899906842624) :
    aAppend P H t (some u) (.slice none 0 0) x = .ok (.slice (some ⟨H.next, 0, none⟩) m m, H.push (newR el H.next sz new)) := by
  have h1 : ¬ m * bytes > 281474976710656 := by
    have : (4 * m) * bytes ≤ (5 * m + 768) * bytes := Nat.mul_le_mul_right _ (by omega)
    rw [Nat.mul_assoc] at this
    omega
  have h2 : ¬ (sz = 0 ∨ bytes = 0) := by
    rintro (e | e)
    · subst e; cases hs0
    · subst e; cases hb0
  unfold aAppend
  simp only [ht, hu, hs, hb, hx, bind, Except.bind, if_neg h1, if_neg hm, if_neg h2, hz, if_pos hbig, newRow]
  have := AH.new_push (H := H) (r := newR el H.next sz new)
  unfold newR at this ⊢
  rw [this]

theorem append_zero {t u el sz bytes : Nat} {H : AH} {x s : Value} {new : List Value} {z : Bool}
    (ht : P.underlying t = some (.slice el)) (hu : tZeros P (some u) = .ok z) (hs : tSize P el = .ok sz) (hb : tBytes P el = .ok bytes)
    (hx : appended P H el z x = .ok (new, 0)) (hv : s = .slice none 0 0 ∨ ∃ a n c, s = .slice (some a) n c ∧ n ≤ c) : aAppend P H t (some u) s x = .ok (s, H) := by
  unfold aAppend
  have h1 : ¬ 0 * bytes > 281474976710656 := by omega
  simp only [ht, hu, hs, hb, hx, bind, Except.bind, if_neg h1, if_true]
  rcases hv with rfl | ⟨a, n, c, rfl, hc⟩
  · rfl
  · simp only [if_pos hc]

/-- the memory behind an append to a list that may grow -/
theorem step_grow (h : HInv e fr tk H) (hX : XC e H) {sz : Nat} {l m : List (List PV)} {k id off : Nat} {r : Row} {new : List Value} {τ : Tk} (hl : RV e tk H true (.list sz l (some k)) (.slice (some ⟨id, off, none⟩) l.length l.length)) (hn : tk[k]? = some l.length)
    (hr : H.get id = some (.row r)) (ht : e.toks[k]? = some (some τ)) (hf : r.fam = τ.fam) (hd : r.disp + off = τ.base) (hz : sz = τ.esz) (hm : Lies e tk H sz m new) (hm0 : m.length ≠ 0) :
    Step e tk H e fr (tk.set k (l.length + m.length)) ((H.readied id r (r.disp + off + l.length * sz) new.length).push (growR r off l.length sz new)) ∧
    RV e (tk.set k (l.length + m.length)) ((H.readied id r (r.disp + off + l.length * sz) new.length).push (growR r off l.length sz new)) true (.list sz (l ++ m) (some k)) (.slice (some ⟨H.next, 0, none⟩) (l.length + m.length) (l.length + m.length)) ∧
    ∀ (j jd : Nat), e.rows[j]? = some jd → ((H.readied id r (r.disp + off + l.length * sz) new.length).push (growR r off l.length sz new)).get jd = H.get jd := by
  have hnx : ∀ j, (H.readied id r (r.disp + off + l.length * sz) new.length).next = H.next := fun j => (readied_get H id r _ _ j hr).1
  have hkl : k < tk.length := lt_of_get hn
  generalize hH1 : H.readied id r (r.disp + off + l.length * sz) new.length = H1 at *
  have hoth : ∀ j o, H.get j = some o → (∀ r, o ≠ .row r) → H1.get j = some o := fun j => by rw [← hH1]; exact (readied_get H id r _ _ j hr).2.1
  have hback : ∀ j o, H1.get j = some o → ∃ o', H.get j = some o' ∧ ((∀ r, o' ≠ .row r) → o' = o) ∧ (∀ r', o = .row r' → ∃ r0, o' = .row r0 ∧ r'.fam = r0.fam) := fun j => by rw [← hH1]; exact (readied_get H id r _ _ j hr).2.2.1
  have hrow : ∀ j r0, H.get j = some (.row r0) → ∃ r', H1.get j = some (.row r') ∧ Meta r0 r' ∧ (r0.fam ≠ r.fam → r' = r0) ∧ ∀ p, r0.disp + p < r.disp + off + l.length * sz → r'.cells[p]? = r0.cells[p]? := fun j => by rw [← hH1]; exact (readied_get H id r _ _ j hr).2.2.2
  have hpush : ∀ j o, H1.get j = some o → (H1.push (growR r off l.length sz new)).get j = some o := fun j o ho => by
    obtain ⟨o', ho', _⟩ := hback j o ho
    rw [AH.get_push, if_neg (by rw [hnx 0]; have := h.wf.lt j o' ho'; omega)]; exact ho
  have hx : Extn (ctx e tk H) e (tk.set k (l.length + m.length)) := by
    refine ⟨⟨[], by simp [ctx], by simp⟩, fun _ _ h => .inl h, fun _ _ h => h, fun t n (hq : tk[t]? = some n) => ?_⟩
    by_cases e1 : t = k
    · rw [e1, hn] at hq; cases hq
      rw [e1]
      exact ⟨_, List.getElem?_set_self hkl, by omega, fun _ => rfl⟩
    · exact ⟨n, by rw [List.getElem?_set_ne (Ne.symm e1)]; exact hq, Nat.le_refl _, fun _ => rfl⟩
  have hfr : Frame (ctx e tk H) (H1.push (growR r off l.length sz new)) := by
    refine ⟨by rw [AH.push_next, hnx 0]; exact Nat.le_succ _, fun j r0 h0 _ => ?_, fun j o ho hn => hpush j o (hoth j o ho hn), fun j h1 h2 => ?_⟩
    case refine_2 =>
      have h1' : j < H.next := h1
      rw [AH.get_push, if_neg (by rw [hnx 0]; omega)]
      cases hj : H1.get j with
      | none => rfl
      | some o =>
        obtain ⟨o', ho', _⟩ := hback j o hj
        have h2' : H.get j = none := h2
        rw [h2'] at ho'; cases ho'
    obtain ⟨r', h1, h2, h3, h4⟩ := hrow j r0 h0
    refine ⟨r', hpush j _ h1, h2, fun p hp => ?_, fun hno => by rw [h3 (by rw [hf]; exact hno k τ ht)]⟩
    by_cases e1 : r0.fam = r.fam
    · have := hp k τ l.length ht hn (e1.trans hf)
      exact h4 p (by rw [hz]; omega)
    · rw [h3 e1]
  have g := grow_of hx hfr rfl h.tlen
  have hlt : id < H.next := h.wf.lt id _ hr
  refine ⟨⟨⟨⟨fun j o ho => ?_, fun j r' hr' => ?_⟩, h.rlen, h.rnd, fun j jd R hj hR => ?_, by simp [h.tlen], h.tsep, fun t τ' ht' => by rw [AH.push_next, hnx 0]; have := h.tlt t τ' ht'; omega, h.tfr⟩, hx, hfr, rfl⟩, ?_, fun j jd hj => ?_⟩
  · rw [AH.get_push] at ho
    rw [AH.push_next, hnx 0]
    split at ho
    · rw [hnx 0] at *; omega
    · obtain ⟨o', ho', _⟩ := hback j o ho
      have := h.wf.lt j o' ho'; omega
  · rw [AH.get_push] at hr'
    rw [AH.push_next, hnx 0]
    split at hr'
    · cases hr'
      have : r.fam < H.next := h.wf.fam id r hr
      show r.fam < _; omega
    · obtain ⟨o', ho', _, h2⟩ := hback j _ hr'
      obtain ⟨r0, rfl, h3⟩ := h2 r' rfl
      have := h.wf.fam j r0 ho'; omega
  · obtain ⟨r2, us, h2, h3, h4, h5, h6, h7, h8⟩ := h.row j jd R hj hR
    obtain ⟨r', k1, k2, k3, k4⟩ := hrow jd r2 h2
    have : r' = r2 := k3 (fun e1 => h.tfr k τ ht (by rw [← hf, ← e1, h6]; exact List.mem_of_getElem? hj))
    subst this
    exact ⟨r', us, hpush _ _ k1, h3, h4, h5, h6, h7, h8.grow g⟩
  · cases hl with
    | @list _ _ _ _ _ _ _ _ r' w hr' hnn hs he hc hw hzz hp hv hh htt =>
      rw [hr] at hr'; cases hr'
      have hcl : ((r.cells.drop off).take (l.length * sz)).length = l.length * sz := by rw [List.length_take, List.length_drop]; omega
      have hnl : new.length = m.length * sz := hm.1
      have hlen : (l ++ m).length = l.length + m.length := List.length_append
      have key : ∀ {β : Prop} (i : Nat) (cs : List PV), (l ++ m)[i]? = some cs → (i < l.length → l[i]? = some cs → β) → (∀ j, i = l.length + j → m[j]? = some cs → β) → β := fun i cs hi h1 h2 => by
        by_cases hlt : i < l.length
        · rw [List.getElem?_append_left hlt] at hi; exact h1 hlt hi
        · rw [List.getElem?_append_right (by omega)] at hi; exact h2 (i - l.length) (by omega) hi
      rw [← hlen]
      refine .list (r := growR r off l.length sz new) (fun i j => if i < l.length then w i j else (new[(i - l.length) * sz + j]?).getD undef) ?_ (Nat.le_refl _) ⟨?_, ?_, ?_, h.nnext, fun t τ' n ht' hn' hf' => ?_⟩ rfl (Nat.le_refl _) ?_
        (fun i cs hi => key i cs hi (fun _ k => hzz i cs k) (fun j _ k => hm.2.1 j cs k)) (fun i cs j p hi hj => key i cs hi (fun _ k => hp i cs j p k hj) (fun j' _ k => hm.2.2.1 j' cs j p k hj)) (fun i cs j p hi hj => ?_) (fun i cs j p hi hj => ?_) (fun k' hk' => ?_)
      · rw [AH.get_push, if_pos (hnx 0).symm]
      · rw [AH.push_next, hnx 0]; exact Nat.lt_succ_self _
      · rw [AH.push_next, hnx 0]; have : r.fam < H.next := h.wf.fam id r hr; show r.fam < _; omega
      · show e.X H.next r.fam _
        rw [hf]; exact hX.tok k τ _ _ ht (Nat.le_refl _)
      · have : t = k := h.tsep t k τ' τ ht' ht (by rw [← hf', ← hf]; rfl)
        subst this
        rw [ht] at ht'; cases ht'
        rw [List.getElem?_set_self hkl] at hn'; cases hn'
        show r.disp + off + (0 + (l ++ m).length * sz) ≤ _
        rw [hlen, hz]; omega
      · show 0 + (l ++ m).length * sz ≤ ((r.cells.drop off).take (l.length * sz) ++ new.map some).length
        rw [hlen, List.length_append, hcl, List.length_map, hnl, Nat.add_mul]; omega
      · show ((r.cells.drop off).take (l.length * sz) ++ new.map some)[0 + i * sz + j]? = _
        rw [Nat.zero_add]
        refine key i cs hi (fun hlt k => ?_) (fun i' e1 k => ?_)
        · have hj' : j < sz := by rw [← hzz i cs k]; exact lt_of_get hj
          have := mul_at hlt hj'
          rw [List.getElem?_append_left (by omega), List.getElem?_take, if_pos this, List.getElem?_drop, if_pos hlt, show off + (i * sz + j) = off + i * sz + j by omega]
          exact hv i cs j p k hj
        · obtain ⟨v, h1, _⟩ := hm.2.2.2 i' cs j p k hj
          have h3 : i * sz + j = l.length * sz + (i' * sz + j) := by rw [e1, Nat.add_mul]; omega
          rw [if_neg (by omega), show i - l.length = i' by omega, List.getElem?_append_right (by omega), hcl, h3, show l.length * sz + (i' * sz + j) - l.length * sz = i' * sz + j by omega, List.getElem?_map, h1]; rfl
      · refine key i cs hi (fun hlt k => ?_) (fun i' e1 k => ?_)
        · simp only [if_pos hlt]; rw [hlen]; exact (hh i cs j p k hj).grow g
        · obtain ⟨v, h1, h2⟩ := hm.2.2.2 i' cs j p k hj
          simp only [if_neg (show ¬ i < l.length by omega), show i - l.length = i' by omega, h1]
          rw [hlen]; exact h2.grow g
      · cases hk'
        refine ⟨rfl, l.length + m.length, by rw [hlen]; exact List.getElem?_set_self hkl, by omega, fun _ => ⟨τ, ht, hf, ?_, hz, rfl, rfl⟩⟩
        show r.disp + off + 0 = τ.base
        omega

  · obtain ⟨R, hR⟩ := get_of_lt (l := fr) (i := j) (by rw [← h.rlen]; exact lt_of_get hj)
    obtain ⟨r2, us, h2, h3, h4, h5, h6, h7, h8⟩ := h.row j jd R hj hR
    obtain ⟨r', k1, k2, k3, k4⟩ := hrow jd r2 h2
    have : r' = r2 := k3 (fun e1 => h.tfr k τ ht (by rw [← hf, ← e1, h6]; exact List.mem_of_getElem? hj))
    subst this
    rw [hpush _ _ k1, h2]

end
end Go.Eng
