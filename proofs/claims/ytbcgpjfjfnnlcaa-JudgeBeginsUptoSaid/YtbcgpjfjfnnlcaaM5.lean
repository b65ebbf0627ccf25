/-
  Appends, where a list may grow.
-/
import Derived.Test.YtbcgpjfjfnnlcaaM3
set_option linter.unusedSimpArgs false
set_option linter.unusedVariables false
namespace Go.Eng
noncomputable section
variable {P : Program} {e : Env} {fr : List PRow} {tk : List Nat} {H : AH}

theorem readied_get (H : AH) (id : Nat) (r : Row) (lo n j : Nat) (hr : H.get id = some (.row r)) :
    (H.readied id r lo n).next = H.next ∧
    (∀ o, H.get j = some o → (∀ r, o ≠ .row r) → (H.readied id r lo n).get j = some o) ∧
    (∀ o, (H.readied id r lo n).get j = some o → ∃ o', H.get j = some o' ∧ ((∀ r, o' ≠ .row r) → o' = o) ∧ (∀ r', o = .row r' → ∃ r0, o' = .row r0 ∧ r'.fam = r0.fam)) ∧
    ∀ r0, H.get j = some (.row r0) → ∃ r', (H.readied id r lo n).get j = some (.row r') ∧ Meta r0 r' ∧ (r0.fam ≠ r.fam → r' = r0) ∧ ∀ p, r0.disp + p < lo → r'.cells[p]? = r0.cells[p]? := by
  unfold AH.readied
  cases hso : r.solo with
  | true =>
    simp only [if_true]
    refine ⟨rfl, fun o ho hn => ?_, fun o ho => ?_, fun r0 h0 => ?_⟩
    · rw [AH.get_set, if_neg (fun e => by subst e; rw [hr] at ho; cases ho; exact hn r rfl)]; exact ho
    · rw [AH.get_set] at ho
      split at ho
      · rename_i e1; subst e1; cases ho; exact ⟨_, hr, fun hn => absurd rfl (hn r), fun r' e => ⟨r, rfl, by cases e; rfl⟩⟩
      · exact ⟨o, ho, fun _ => rfl, fun r' e => ⟨r', e, rfl⟩⟩
    · rw [AH.get_set]
      by_cases e : j = id
      · subst e
        rw [hr] at h0; cases h0
        rw [if_pos rfl]
        refine ⟨_, rfl, ⟨rfl, rfl, rfl, rfl, rfl, Row.length_blur _ _ _⟩, fun hn => absurd rfl hn, fun p hp => ?_⟩
        show (r.blur lo (lo + n)).cells[p]? = _
        rw [Row.get_blur]
        cases r.cells[p]? with
        | none => rfl
        | some c => simp only [Option.map_some]; rw [if_neg (by omega)]
      · rw [if_neg e]
        exact ⟨r0, h0, Meta.refl r0, fun _ => rfl, fun _ _ => rfl⟩
  | false =>
    simp only [Bool.false_eq_true, if_false]
    refine ⟨rfl, fun o ho hn => ?_, fun o ho => ?_, fun r0 h0 => ?_⟩
    · rw [AH.get_blur, ho]
      cases o with
      | row r => exact absurd rfl (hn r)
      | _ => rfl
    · rw [AH.get_blur] at ho
      cases hj : H.get j with
      | none => rw [hj] at ho; cases ho
      | some o' =>
        rw [hj] at ho
        simp only [Option.map_some, Option.some.injEq] at ho
        refine ⟨o', rfl, fun hn => ?_, fun r' e => ?_⟩
        · cases o' with
          | row r => exact absurd rfl (hn r)
          | _ => exact ho
        · subst e
          cases o' with
          | row r0 =>
            refine ⟨r0, rfl, ?_⟩
            simp only [AO.blur] at ho
            split at ho
            · cases ho; rfl
            · cases ho; rfl
          | _ => cases ho
    · rw [AH.get_blur, h0]
      simp only [Option.map_some, AO.blur]
      split
      · refine ⟨_, rfl, ⟨rfl, rfl, rfl, rfl, rfl, Row.length_blur _ _ _⟩, fun hn => absurd (by assumption) hn, fun p hp => ?_⟩
        rw [Row.get_blur]
        cases r0.cells[p]? with
        | none => rfl
        | some c => simp only [Option.map_some]; rw [if_neg (by omega)]
      · exact ⟨r0, rfl, Meta.refl r0, fun _ => rfl, fun _ _ => rfl⟩

def growR (r : Row) (off n sz : Nat) (new : List Value) : Row := { cells := (r.cells.drop off).take (n * sz) ++ new.map some, ty := r.ty, fam := r.fam, disp := r.disp + off, esz := sz, ro := false, solo := false }

theorem append_own {t u el sz bytes id off n m : Nat} {H : AH} {x : Value} {r : Row} {new : List Value} {zs : List Value} {z : Bool}
    (ht : P.underlying t = some (.slice el)) (hu : tZeros P (some u) = .ok z) (hs : tSize P el = .ok sz) (hb : tBytes P el = .ok bytes) (hz : tZero P el = .ok zs) (hs0 : Nat.beq sz 0 = false) (hb0 : Nat.beq bytes 0 = false)
    (hr : H.get id = some (.row r)) (hro : r.ro = false) (hesz : r.esz = sz) (hlen : off + n * sz ≤ r.cells.length) (hx : appended P H el z x = .ok (new, m)) (hm : m ≠ 0) (hbig : (5 * (n + m) + 768) * bytes ≤ 1125899906842624)
    (hpl : new.all plainCell = true) :
    aAppend P H t (some u) (.slice (some ⟨id, off, none⟩) n n) x = .ok (.slice (some ⟨H.next, 0, none⟩) (n + m) (n + m), (H.readied id r (r.disp + off + n * sz) new.length).push (growR r off n sz new)) := by
  have h1 : ¬ m * bytes > 281474976710656 := by
    have : (4 * m) * bytes ≤ (5 * (n + m) + 768) * bytes := Nat.mul_le_mul_right _ (by omega)
    rw [Nat.mul_assoc] at this
    omega
  have h2 : ¬ (sz = 0 ∨ bytes = 0) := by
    rintro (e | e)
    · subst e; cases hs0
    · subst e; cases hb0
  have h3 : ¬ n + m ≤ n := by omega
  have hrow : H.row id = .ok r := by unfold AH.row; rw [hr]
  have hnx : (H.readied id r (r.disp + off + n * sz) new.length).next = H.next := (readied_get H id r _ _ 0 hr).1
  have hnew := AH.new_push (H := H.readied id r (r.disp + off + n * sz) new.length) (r := growR r off n sz new)
  rw [hnx] at hnew
  have htk : takeU (List.drop off r.cells) (n * sz) = .ok ((r.cells.drop off).take (n * sz)) := by
    unfold takeU
    rw [if_pos (by rw [List.length_drop]; omega)]
  unfold aAppend
  simp only [ht, hu, hs, hb, hx, bind, Except.bind, if_neg h1, if_neg hm, if_neg h2, hz, hrow, hro, Bool.false_eq_true, if_false, if_neg h3, if_pos hbig, hpl, Bool.not_true, hesz, ne_eq, not_true_eq_false, htk]
  have e : (if r.solo = true then H.set id (.row { (r.blur (r.disp + off + n * sz) (r.disp + off + n * sz + new.length)) with solo := false }) else H.blur r.fam (r.disp + off + n * sz) (r.disp + off + n * sz + new.length)) = H.readied id r (r.disp + off + n * sz) new.length := rfl
  rw [e]
  unfold growR at hnew ⊢
  rw [hnew]

theorem append_nil {t u el sz bytes m : Nat} {H : AH} {x : Value} {new : List Value} {zs : List Value} {z : Bool}
    (ht : P.underlying t = some (.slice el)) (hu : tZeros P (some u) = .ok z) (hs : tSize P el = .ok sz) (hb : tBytes P el = .ok bytes) (hz : tZero P el = .ok zs) (hs0 : Nat.beq sz 0 = false) (hb0 : Nat.beq bytes 0 = false)
    (hx : appended P H el z x = .ok (new, m)) (hm : m ≠ 0) (hbig : (5 * m + 768) * bytes ≤ 1125899906842624) :
    aAppend P H t (some u) (.slice none 0 0) x = .ok (.slice (some ⟨H.next, 0, none⟩) m m, H.push (newR el H.next sz new)) := by
  have h1 : ¬ m * bytes > 281474976710656 := by
    have : (4 * m) * bytes ≤ (5 * m + 768) * bytes := Nat.mul_le_mul_right _ (by omega)
    rw [Nat.mul_assoc] at this
    omega
  have h2 : ¬ (sz = 0 ∨ bytes = 0) := by
    rintro (e | e)
    · subst e; cases hs0
    · subst e; cases hb0
  unfold aAppend
  simp only [ht, hu, hs, hb, hx, bind, Except.bind, if_neg h1, if_neg hm, if_neg h2, hz, if_pos hbig, newRow]
  have := AH.new_push (H := H) (r := newR el H.next sz new)
  unfold newR at this ⊢
  rw [this]

theorem append_zero {t u el sz bytes : Nat} {H : AH} {x s : Value} {new : List Value} {z : Bool}
    (ht : P.underlying t = some (.slice el)) (hu : tZeros P (some u) = .ok z) (hs : tSize P el = .ok sz) (hb : tBytes P el = .ok bytes)
    (hx : appended P H el z x = .ok (new, 0)) (hv : s = .slice none 0 0 ∨ ∃ a n c, s = .slice (some a) n c ∧ n ≤ c) : aAppend P H t (some u) s x = .ok (s, H) := by
  unfold aAppend
  have h1 : ¬ 0 * bytes > 281474976710656 := by omega
  simp only [ht, hu, hs, hb, hx, bind, Except.bind, if_neg h1, if_true]
  rcases hv with rfl | ⟨a, n, c, rfl, hc⟩
  · rfl
  · simp only [if_pos hc]

/-- a memory whose rows of one family may know less from a place on -/
structure Dim (H H1 : AH) (fam lo : Nat) : Prop where
  nx : H1.next = H.next
  oth : ∀ j o, H.get j = some o → (∀ r, o ≠ .row r) → H1.get j = some o
  back : ∀ j o, H1.get j = some o → ∃ o', H.get j = some o' ∧ ((∀ r, o' ≠ .row r) → o' = o) ∧ (∀ r', o = .row r' → ∃ r0, o' = .row r0 ∧ r'.fam = r0.fam)
  row : ∀ j r0, H.get j = some (.row r0) → ∃ r', H1.get j = some (.row r') ∧ Meta r0 r' ∧ (r0.fam ≠ fam → r' = r0) ∧ ∀ p, r0.disp + p < lo → r'.cells[p]? = r0.cells[p]?
theorem Dim.readied {H : AH} {id : Nat} {r : Row} {lo n : Nat} (hr : H.get id = some (.row r)) : Dim H (H.readied id r lo n) r.fam lo :=
  ⟨(readied_get H id r lo n 0 hr).1, fun j => (readied_get H id r lo n j hr).2.1, fun j => (readied_get H id r lo n j hr).2.2.1, fun j => (readied_get H id r lo n j hr).2.2.2⟩

/-- the memory behind an append to a list that may grow -/
theorem step_grow' (h : HInv e fr tk H) (hX : XC e H) {sz : Nat} {l m : List (List PV)} {k id off : Nat} {r : Row} {new : List Value} {τ : Tk} (hl : RV e tk H true (.list sz l (some k)) (.slice (some ⟨id, off, none⟩) l.length l.length)) (hn : tk[k]? = some l.length)
    (hr : H.get id = some (.row r)) (ht : e.toks[k]? = some (some τ)) (hf : r.fam = τ.fam) (hd : r.disp + off = τ.base) (hz : sz = τ.esz) (hm : Lies e tk H sz m new) (hm0 : m.length ≠ 0) {H1 : AH} (hD : Dim H H1 r.fam (r.disp + off + l.length * sz)) :
    Step e tk H e fr (tk.set k (l.length + m.length)) (H1.push (growR r off l.length sz new)) ∧
    RV e (tk.set k (l.length + m.length)) (H1.push (growR r off l.length sz new)) true (.list sz (l ++ m) (some k)) (.slice (some ⟨H.next, 0, none⟩) (l.length + m.length) (l.length + m.length)) ∧
    ∀ (j jd : Nat), e.rows[j]? = some jd → (H1.push (growR r off l.length sz new)).get jd = H.get jd := by
  have hnx : Nat → H1.next = H.next := fun _ => hD.nx
  have hkl : k < tk.length := lt_of_get hn
  have hoth := hD.oth
  have hback := hD.back
  have hrow := hD.row
  have hpush : ∀ j o, H1.get j = some o → (H1.push (growR r off l.length sz new)).get j = some o := fun j o ho => by
    obtain ⟨o', ho', _⟩ := hback j o ho
    rw [AH.get_push, if_neg (by rw [hnx 0]; have := h.wf.lt j o' ho'; omega)]; exact ho
  have hsame : ∀ (j jd : Nat) (R : PRow), e.rows[j]? = some jd → fr[j]? = some R → (H1.push (growR r off l.length sz new)).get jd = H.get jd := fun j jd R hj hR => by
    rcases h.row j jd R hj hR with ⟨_, r2, us, h2, h3, h4, h5, h6, h7, h8⟩ | ⟨_, es, c, _, _, h2, _⟩
    · obtain ⟨r', k1, k2, k3, k4⟩ := hrow jd r2 h2
      have : r' = r2 := k3 (fun e1 => h.tfr k τ ht (by rw [← hf, ← e1, h6]; exact List.mem_of_getElem? hj))
      subst this
      rw [hpush _ _ k1, h2]
    · rw [hpush _ _ (hoth jd _ h2 (fun r e1 => by cases e1)), h2]
  have hx : Extn (ctx e tk H) e (tk.set k (l.length + m.length)) := by
    refine ⟨⟨[], by simp [ctx], by simp⟩, fun _ _ h => .inl h, fun _ _ h => h, fun t n (hq : tk[t]? = some n) => ?_⟩
    by_cases e1 : t = k
    · rw [e1, hn] at hq; cases hq
      rw [e1]
      exact ⟨_, List.getElem?_set_self hkl, by omega, fun _ => rfl⟩
    · exact ⟨n, by rw [List.getElem?_set_ne (Ne.symm e1)]; exact hq, Nat.le_refl _, fun _ => rfl⟩
  have hfr : Frame (ctx e tk H) (H1.push (growR r off l.length sz new)) := by
    refine ⟨by rw [AH.push_next, hnx 0]; exact Nat.le_succ _, fun j r0 h0 _ => ?_, fun j o ho hn _ => hpush j o (hoth j o ho hn), fun j h1 h2 => ?_, fun j r' hr' => ?_⟩
    case refine_3 =>
      rw [AH.get_push] at hr'
      split at hr'
      · cases hr'; exact .inl ⟨id, r, hr, rfl⟩
      · obtain ⟨o', ho', _, h2⟩ := hback j _ hr'
        obtain ⟨r0, rfl, h3⟩ := h2 r' rfl
        exact .inl ⟨j, r0, ho', h3.symm⟩
    case refine_2 =>
      have h1' : j < H.next := h1
      rw [AH.get_push, if_neg (by rw [hnx 0]; omega)]
      cases hj : H1.get j with
      | none => rfl
      | some o =>
        obtain ⟨o', ho', _⟩ := hback j o hj
        have h2' : H.get j = none := h2
        rw [h2'] at ho'; cases ho'
    obtain ⟨r', h1, h2, h3, h4⟩ := hrow j r0 h0
    refine ⟨r', hpush j _ h1, h2, fun p hp => ?_, fun hno => by rw [h3 (by rw [hf]; exact hno k τ ht)]⟩
    by_cases e1 : r0.fam = r.fam
    · have := hp k τ l.length ht hn (e1.trans hf)
      exact h4 p (by rw [hz]; omega)
    · rw [h3 e1]
  have g := grow_of hx hfr rfl h.tlen
  have hlt : id < H.next := h.wf.lt id _ hr
  refine ⟨⟨⟨⟨fun j o ho => ?_, fun j r' hr' => ?_, esz_of h.wf fun j r' hr' => ?_⟩, h.rlen, h.rnd, fun j jd R hj hR => ?_, by simp [h.tlen], h.tsep, fun t τ' ht' => by rw [AH.push_next, hnx 0]; have := h.tlt t τ' ht'; omega, h.tfr⟩, hx, hfr, rfl⟩, ?_, fun j jd hj => ?_⟩
  · rw [AH.get_push] at ho
    rw [AH.push_next, hnx 0]
    split at ho
    · rw [hnx 0] at *; omega
    · obtain ⟨o', ho', _⟩ := hback j o ho
      have := h.wf.lt j o' ho'; omega
  · rw [AH.get_push] at hr'
    rw [AH.push_next, hnx 0]
    split at hr'
    · cases hr'
      have : r.fam < H.next := h.wf.fam id r hr
      show r.fam < _; omega
    · obtain ⟨o', ho', _, h2⟩ := hback j _ hr'
      obtain ⟨r0, rfl, h3⟩ := h2 r' rfl
      have := h.wf.fam j r0 ho'; omega
  · rw [AH.get_push] at hr'
    split at hr'
    · cases hr'
      cases hl with
      | @list _ _ _ _ _ _ _ _ r2 w hr2 hnn hs he hc hw hzz hp hv hh htt =>
        rw [hr] at hr2; cases hr2
        obtain ⟨_, n0, q1, q2, q3⟩ := htt k rfl
        have hl0 : l.length = n0 := by rw [hn] at q1; exact Option.some.inj q1
        obtain ⟨_, _, _, _, _, q4, _⟩ := q3 hl0
        exact .inr ⟨id, r, hr, rfl, he.symm, q4.symm⟩
    · obtain ⟨o', ho', _, h2⟩ := hback j _ hr'
      obtain ⟨r0, rfl, _⟩ := h2 r' rfl
      obtain ⟨r'', k1, k2, _⟩ := hrow j r0 ho'
      rw [hr'] at k1; cases k1
      exact .inr ⟨j, r0, ho', k2.fam, k2.esz, k2.ro⟩
  · exact (h.row j jd R hj hR).stay rfl (hsame j jd R hj hR) fun us h8 => h8.grow g
  · cases hl with
    | @list _ _ _ _ _ _ _ _ r' w hr' hnn hs he hc hw hzz hp hv hh htt =>
      rw [hr] at hr'; cases hr'
      have hcl : ((r.cells.drop off).take (l.length * sz)).length = l.length * sz := by rw [List.length_take, List.length_drop]; omega
      have hnl : new.length = m.length * sz := hm.1
      have hlen : (l ++ m).length = l.length + m.length := List.length_append
      have key : ∀ {β : Prop} (i : Nat) (cs : List PV), (l ++ m)[i]? = some cs → (i < l.length → l[i]? = some cs → β) → (∀ j, i = l.length + j → m[j]? = some cs → β) → β := fun i cs hi h1 h2 => by
        by_cases hlt : i < l.length
        · rw [List.getElem?_append_left hlt] at hi; exact h1 hlt hi
        · rw [List.getElem?_append_right (by omega)] at hi; exact h2 (i - l.length) (by omega) hi
      rw [← hlen]
      refine .list (r := growR r off l.length sz new) (fun i j => if i < l.length then w i j else (new[(i - l.length) * sz + j]?).getD undef) ?_ (Nat.le_refl _) ⟨?_, ?_, ?_, h.nnext, fun t τ' n ht' hn' hf' => ?_⟩ rfl (Nat.le_refl _) ?_
        (fun i cs hi => key i cs hi (fun _ k => hzz i cs k) (fun j _ k => hm.2.1 j cs k)) (fun i cs j p hi hj => key i cs hi (fun _ k => hp i cs j p k hj) (fun j' _ k => hm.2.2.1 j' cs j p k hj)) (fun i cs j p hi hj => ?_) (fun i cs j p hi hj => ?_) (fun k' hk' => ?_)
      · rw [AH.get_push, if_pos (hnx 0).symm]
      · rw [AH.push_next, hnx 0]; exact Nat.lt_succ_self _
      · rw [AH.push_next, hnx 0]; have : r.fam < H.next := h.wf.fam id r hr; show r.fam < _; omega
      · show e.X H.next r.fam _
        rw [hf]; exact hX.tok k τ _ _ ht (Nat.le_refl _)
      · have : t = k := h.tsep t k τ' τ ht' ht (by rw [← hf', ← hf]; rfl)
        subst this
        rw [ht] at ht'; cases ht'
        rw [List.getElem?_set_self hkl] at hn'; cases hn'
        show r.disp + off + (0 + (l ++ m).length * sz) ≤ _
        rw [hlen, hz]; omega
      · show 0 + (l ++ m).length * sz ≤ ((r.cells.drop off).take (l.length * sz) ++ new.map some).length
        rw [hlen, List.length_append, hcl, List.length_map, hnl, Nat.add_mul]; omega
      · show ((r.cells.drop off).take (l.length * sz) ++ new.map some)[0 + i * sz + j]? = _
        rw [Nat.zero_add]
        refine key i cs hi (fun hlt k => ?_) (fun i' e1 k => ?_)
        · have hj' : j < sz := by rw [← hzz i cs k]; exact lt_of_get hj
          have := mul_at hlt hj'
          rw [List.getElem?_append_left (by omega), List.getElem?_take, if_pos this, List.getElem?_drop, if_pos hlt, show off + (i * sz + j) = off + i * sz + j by omega]
          exact hv i cs j p k hj
        · obtain ⟨v, h1, _⟩ := hm.2.2.2 i' cs j p k hj
          have h3 : i * sz + j = l.length * sz + (i' * sz + j) := by rw [e1, Nat.add_mul]; omega
          rw [if_neg (by omega), show i - l.length = i' by omega, List.getElem?_append_right (by omega), hcl, h3, show l.length * sz + (i' * sz + j) - l.length * sz = i' * sz + j by omega, List.getElem?_map, h1]; rfl
      · refine key i cs hi (fun hlt k => ?_) (fun i' e1 k => ?_)
        · simp only [if_pos hlt]; rw [hlen]; exact (hh i cs j p k hj).grow g
        · obtain ⟨v, h1, h2⟩ := hm.2.2.2 i' cs j p k hj
          simp only [if_neg (show ¬ i < l.length by omega), show i - l.length = i' by omega, h1]
          rw [hlen]; exact h2.grow g
      · cases hk'
        refine ⟨rfl, l.length + m.length, by rw [hlen]; exact List.getElem?_set_self hkl, by omega, fun _ => ⟨τ, ht, hf, ?_, hz, rfl, rfl⟩⟩
        show r.disp + off + 0 = τ.base
        omega

  · obtain ⟨R, hR⟩ := get_of_lt (l := fr) (i := j) (by rw [← h.rlen]; exact lt_of_get hj)
    exact hsame j jd R hj hR

end
end Go.Eng
/-
  Appends: what comes of them.
-/
namespace Go.Eng
noncomputable section
variable {P : Program} {e : Env} {fr : List PRow} {tk : List Nat} {H : AH}

def Env.setTok (e : Env) (k : Nat) (τ : Tk) : Env := { e with toks := e.toks.set k (some τ) }

theorem get_set_cases {α : Type} {l : List α} {k t : Nat} {x y : α} (h : (l.set k x)[t]? = some y) : (t = k ∧ y = x) ∨ (t ≠ k ∧ l[t]? = some y) := by
  by_cases e1 : t = k
  · subst e1
    rw [List.getElem?_set_self (by have := lt_of_get h; simpa using this)] at h
    cases h; exact .inl ⟨rfl, rfl⟩
  · rw [List.getElem?_set_ne (Ne.symm e1)] at h; exact .inr ⟨e1, h⟩

theorem step_fill (h : HInv e fr tk H) (hX : XC e H) {sz : Nat} {m : List (List PV)} {k : Nat} {new : List Value} (ht : e.toks[k]? = some none) (hn : tk[k]? = some 0) (hm : Lies e tk H sz m new) (hm0 : m.length ≠ 0) (ty : TypeId) :
    Step e tk H (e.setTok k ⟨H.next, 0, sz⟩) fr (tk.set k m.length) (H.push (newR ty H.next sz new)) ∧
    RV (e.setTok k ⟨H.next, 0, sz⟩) (tk.set k m.length) (H.push (newR ty H.next sz new)) true (.list sz m (some k)) (.slice (some ⟨H.next, 0, none⟩) m.length m.length) := by
  have hkl : k < tk.length := lt_of_get hn
  have hkt : k < e.toks.length := lt_of_get ht
  have hx : Extn (ctx e tk H) (e.setTok k ⟨H.next, 0, sz⟩) (tk.set k m.length) := by
    refine ⟨⟨[], by simp [ctx, Env.setTok], by simp⟩, fun t τ h1 => ?_, fun t τ h1 => ?_, fun t n (hq : tk[t]? = some n) => ?_⟩
    · rcases get_set_cases h1 with ⟨_, h2⟩ | ⟨_, h2⟩
      · cases h2; exact .inr (Nat.le_refl _)
      · exact .inl h2
    · have h1' : e.toks[t]? = some (some τ) := h1
      show (e.toks.set k _)[t]? = _
      rw [List.getElem?_set_ne (fun e1 => by subst e1; rw [ht] at h1'; cases h1')]; exact h1'
    · by_cases e1 : t = k
      · rw [e1, hn] at hq; cases hq
        exact ⟨m.length, by rw [e1]; exact List.getElem?_set_self hkl, Nat.zero_le _, fun e2 => absurd e2 hm0⟩
      · exact ⟨n, by rw [List.getElem?_set_ne (Ne.symm e1)]; exact hq, Nat.le_refl _, fun _ => by show (e.toks.set k _)[t]? = e.toks[t]?; rw [List.getElem?_set_ne (Ne.symm e1)]⟩
  have hf := frame_push (e := e) (tk := tk) h.wf (newR ty H.next sz new) (Nat.le_refl _)
  have g := grow_of hx hf rfl h.tlen
  have hw := wf_push h.wf (r := newR ty H.next sz new) rfl
  refine ⟨⟨⟨hw, h.rlen, h.rnd, fun k id R hk hR => ?_, by simp [Env.setTok, h.tlen], fun t t' τ τ' ht ht' hf => ?_, fun t τ ht => ?_, fun t τ ht hm => ?_⟩, hx, hf, rfl⟩, ?_⟩
  · obtain ⟨o, h2, _⟩ := (h.row k id R hk hR).here
    exact (h.row k id R hk hR).stay rfl (by rw [AH.get_push, if_neg (by have := h.wf.lt id _ h2; omega)]) fun us h8 => h8.grow g
  · rcases get_set_cases ht with ⟨h0, h1⟩ | ⟨_, h1⟩ <;> rcases get_set_cases ht' with ⟨h3, h2⟩ | ⟨_, h2⟩
    · omega
    · cases h1; have := h.tlt t' τ' h2; simp only at hf; omega
    · cases h2; have := h.tlt t τ h1; simp only at hf; omega
    · exact h.tsep t t' τ τ' h1 h2 hf
  · rw [AH.push_next]
    rcases get_set_cases ht with ⟨h0, h1⟩ | ⟨_, h1⟩
    · cases h1; exact Nat.lt_succ_self _
    · have := h.tlt t τ h1; omega
  · rcases get_set_cases ht with ⟨h0, h1⟩ | ⟨_, h1⟩
    · cases h1; exact h.nnext hm
    · exact h.tfr t τ h1 hm
  · refine RV.mkList (vs := new) (hm.grow g) get_push_new ⟨by rw [AH.push_next]; omega, by rw [AH.push_next]; exact Nat.lt_succ_self _, hX.new _ _ _ (Nat.le_refl _) (Nat.le_refl _), h.nnext, fun t τ n ht hn hf => ?_⟩ rfl (Nat.le_refl _) (fun x v hv => ?_) ?_ (fun k' hk => ?_)
    · rcases get_set_cases ht with ⟨h0, h1⟩ | ⟨_, h1⟩
      · cases h1
        rw [h0, List.getElem?_set_self hkl] at hn
        cases hn
        simp [newR]
      · have := h.tlt t τ h1; simp only [newR] at hf; omega
    · show (new.map some)[0 + x]? = _
      rw [Nat.zero_add, List.getElem?_map, hv]; rfl
    · show 0 + m.length * sz ≤ (new.map some).length
      rw [List.length_map, hm.1]; omega
    · cases hk
      refine ⟨m.length, List.getElem?_set_self hkl, Nat.le_refl _, fun _ => ⟨⟨H.next, 0, sz⟩, ?_, rfl, rfl, rfl, rfl, rfl⟩⟩
      exact List.getElem?_set_self hkt

theorem Lies.plain {sz : Nat} {m : List (List PV)} {new : List Value} (hm : Lies e tk H sz m new) : new.all plainCell = true := by
  rw [List.all_eq_true]
  intro v hv
  obtain ⟨x, hx, rfl⟩ := List.mem_iff_getElem.1 hv
  have hx' : x < m.length * sz := by rw [← hm.1]; exact hx
  have hsz : 0 < sz := by
    rcases Nat.eq_zero_or_pos sz with h | h
    · rw [h, Nat.mul_zero] at hx'; omega
    · exact h
  have hi : x / sz < m.length := (Nat.div_lt_iff_lt_mul hsz).2 hx'
  obtain ⟨cs, hcs⟩ := get_of_lt hi
  obtain ⟨p, hp⟩ := get_of_lt (l := cs) (i := x % sz) (by rw [hm.2.1 _ _ hcs]; exact Nat.mod_lt _ hsz)
  obtain ⟨w, h1, h2⟩ := hm.2.2.2 _ _ _ _ hcs hp
  rw [show x / sz * sz + x % sz = x by rw [Nat.mul_comm]; exact Nat.div_add_mod x sz, List.getElem?_eq_getElem hx] at h1
  cases h1
  exact plain_of h2 (hm.2.2.1 _ _ _ _ hcs hp)

/-! ### What is appended -/
theorem takeK_fn : ∀ (N : Nat) (cells : List (Option Value)) (f : Nat → Value), (∀ x, x < N → cells[x]? = some (some (f x))) → takeK cells N = .ok ((List.range N).map f)
  | 0, cells, f, _ => by cases cells <;> rfl
  | N + 1, cells, f, h => by
    have h0 := h 0 (by omega)
    cases cells with
    | nil => simp at h0
    | cons c l =>
      simp at h0
      subst h0
      show (takeK l N >>= fun x => Except.ok (f 0 :: x)) = _
      rw [takeK_fn N l (fun x => f (x + 1)) (fun x hx => by have := h (x + 1) (by omega); simpa using this)]
      rw [List.range_succ_eq_map]
      simp [bind, Except.bind, Function.comp_def]

theorem lies_list {b : Bool} {sz : Nat} {m : List (List PV)} {t : Option Nat} {v : Value} (h : RV e tk H b (.list sz m t) v) : v = .slice none 0 0 ∧ m = [] ∨ ∃ id off c r new, v = .slice (some ⟨id, off, none⟩) m.length c ∧ H.get id = some (.row r) ∧ m.length ≤ c ∧ r.esz = sz ∧
    takeK (r.cells.drop off) (m.length * sz) = .ok new ∧ Lies e tk H sz m new ∧ off + m.length * sz ≤ r.cells.length ∧ (∃ n, off + m.length * sz ≤ n ∧ Stay e tk H id r.fam (r.disp + n)) ∧ ∀ k, t = some k → Linked e tk sz r off m.length c k := by
  cases h with
  | lnil ht => exact .inl ⟨rfl, rfl⟩
  | @list _ _ _ _ id off c n r w hr hn hs he hc hw hz hp hv hh ht =>
    refine .inr ⟨id, off, c, r, _, rfl, hr, hc, he, takeK_fn _ _ (fun x => w (x / sz) (x % sz)) (fun x hx => ?_), ⟨by simp, hz, hp, fun i cs j p hi hj => ?_⟩, hw, ⟨n, hn, hs⟩, fun k hk => (ht k hk).2⟩
    · have hsz : 0 < sz := by
        rcases Nat.eq_zero_or_pos sz with h | h
        · rw [h, Nat.mul_zero] at hx; omega
        · exact h
      have hi : x / sz < m.length := (Nat.div_lt_iff_lt_mul hsz).2 hx
      obtain ⟨cs, hcs⟩ := get_of_lt hi
      obtain ⟨p, hp'⟩ := get_of_lt (l := cs) (i := x % sz) (by rw [hz _ _ hcs]; exact Nat.mod_lt _ hsz)
      rw [List.getElem?_drop]
      have h1 := hv _ _ _ _ hcs hp'
      rw [show off + x / sz * sz + x % sz = off + x by have := Nat.div_add_mod x sz; rw [Nat.mul_comm] at this; omega] at h1
      exact h1
    · have hj' : j < sz := by rw [← hz i cs hi]; exact lt_of_get hj
      have hx := mul_at (lt_of_get hi) hj'
      refine ⟨w i j, ?_, hh i cs j p hi hj⟩
      rw [List.getElem?_map, List.getElem?_range hx]
      simp only [Option.map_some]
      rw [show (i * sz + j) / sz = i by rw [Nat.mul_comm, Nat.mul_add_div (by omega), Nat.div_eq_of_lt hj']; rfl, show (i * sz + j) % sz = j by rw [Nat.mul_comm, Nat.mul_add_mod, Nat.mod_eq_of_lt hj']]

theorem appended_list {b : Bool} {sz el : Nat} {m : List (List PV)} {t : Option Nat} {v : Value} (h : RV e tk H b (.list sz m t) v) (hs : tSize P el = .ok sz) : ∃ new, appended P H el false v = .ok (new, m.length) ∧ Lies e tk H sz m new := by
  rcases lies_list h with ⟨rfl, rfl⟩ | ⟨id, off, c, r, new, rfl, hr, hc, he, ht, hl, _⟩
  · refine ⟨[], ?_, ⟨by simp, fun i cs hi => by simp at hi, fun i cs j p hi => by simp at hi, fun i cs j p hi => by simp at hi⟩⟩
    unfold appended; simp only [hs, bind, Except.bind]; rfl
  · refine ⟨new, ?_, hl⟩
    unfold appended
    simp only [hs, bind, Except.bind, Bool.false_eq_true, if_false]
    have : readRow H id off (m.length * sz) = .ok new := by
      unfold readRow
      split
      · rename_i h0
        rw [h0] at ht
        rw [← ht]
        cases (List.drop off r.cells) <;> rfl
      · have hrow : H.row id = .ok r := by unfold AH.row; rw [hr]
        simp only [hrow, bind, Except.bind]; exact ht
    rw [this]

theorem append_ok (h : HInv e fr tk H) (hX : XC e H) {t u el sz bytes : Nat} {xv v : Value} {new : List Value} {zs : List Value} {z : Bool} {l m : List (List PV)} {k : Nat}
    (ht : P.underlying t = some (.slice el)) (hu : tZeros P (some u) = .ok z) (hs : tSize P el = .ok sz) (hb : tBytes P el = .ok bytes) (hz : tZero P el = .ok zs) (hs0 : Nat.beq sz 0 = false) (hb0 : Nat.beq bytes 0 = false)
    (hl : RV e tk H true (.list sz l (some k)) v) (hn : tk[k]? = some l.length) (hx : appended P H el z xv = .ok (new, m.length)) (hm : Lies e tk H sz m new) (hbig : (5 * (l.length + m.length) + 768) * bytes ≤ 1125899906842624) :
    ∃ e' H' v', aAppend P H t (some u) v xv = .ok (v', H') ∧ Step e tk H e' fr (tk.set k (l.length + m.length)) H' ∧ RV e' (tk.set k (l.length + m.length)) H' true (.list sz (l ++ m) (some k)) v' ∧ ∀ (j jd : Nat), e.rows[j]? = some jd → H'.get jd = H.get jd := by
  by_cases hm0 : m.length = 0
  · have hmn : m = [] := List.eq_nil_of_length_eq_zero hm0
    subst hmn
    have hset : tk.set k (l.length + 0) = tk := by
      apply List.ext_getElem?
      intro i
      by_cases e1 : i = k
      · subst e1; rw [List.getElem?_set_self (lt_of_get hn), hn]; rfl
      · rw [List.getElem?_set_ne (Ne.symm e1)]
    refine ⟨e, H, v, append_zero ht hu hs hb hx ?_, ?_, ?_, fun _ _ _ => rfl⟩
    · rcases lies_list hl with ⟨rfl, _⟩ | ⟨id, off, c, r, nw, rfl, _, hc, _⟩
      · exact .inl rfl
      · exact .inr ⟨_, _, _, rfl, hc⟩
    · rw [List.length_nil, hset]; exact Step.refl h
    · rw [List.length_nil, hset, List.append_nil]; exact hl
  · rcases lies_list hl with ⟨rfl, rfl⟩ | ⟨id, off, c, r, nw, rfl, hr, hc, he, htk, hli, hlen, hst, hlink⟩
    · cases hl with
      | lnil hlt =>
        obtain ⟨_, n, h1, h2⟩ := hlt k rfl
        have hn0 : n = 0 := by rw [h1] at hn; cases hn; rfl
        subst hn0
        obtain ⟨s1, s2⟩ := step_fill h hX (h2 rfl) h1 hm hm0 el
        refine ⟨e.setTok k ⟨H.next, 0, sz⟩, H.push (newR el H.next sz new), .slice (some ⟨H.next, 0, none⟩) m.length m.length, append_nil ht hu hs hb hz hs0 hb0 hx hm0 (by simpa using hbig), ?_, ?_, fun j jd hj => ?_⟩
        · simpa using s1
        · simpa using s2
        · rw [AH.get_push, if_neg (fun e1 => h.nnext (by rw [← e1]; exact List.mem_of_getElem? hj))]
    · obtain ⟨n, h1, h2, h3⟩ := hlink k rfl
      have hn' : n = l.length := by rw [h1] at hn; cases hn; rfl
      subst hn'
      obtain ⟨τ, k1, k2, k3, k4, k5, k6⟩ := h3 rfl
      subst k6
      obtain ⟨s1, s2, s3⟩ := step_grow' h hX hl h1 hr k1 k2 k3 k4 hm hm0 (Dim.readied (n := new.length) hr)
      exact ⟨e, _, _, append_own ht hu hs hb hz hs0 hb0 hr k5 he hlen hx hm0 hbig hm.plain, s1, s2, s3⟩

end
end Go.Eng
