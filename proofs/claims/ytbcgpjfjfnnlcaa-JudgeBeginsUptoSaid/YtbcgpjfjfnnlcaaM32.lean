/-
  slices.Sort of a list of one's own that lies in a row.
-/
import Derived.Test.YtbcgpjfjfnnlcaaM31
set_option linter.unusedSimpArgs false
set_option linter.unusedVariables false
namespace Go.Eng
noncomputable section
variable {P : Program} {O : Orc}

/-- slices.Sort of known whole numbers -/
theorem sort_run {H : AH} {id off n c : Nat} {r : Row} {L : List Int} (hr : H.get id = some (.row r)) (hro : r.ro = false) (hn : L.length = n) (hb : off + n ≤ r.cells.length) (hg : n < 4611686018427387904) (hc : ∀ i x, L[i]? = some x → r.cells[off + i]? = some (some (.int .i64 x))) :
    ∃ H', sortAns [.slice (some ⟨id, off, none⟩) n c] H = .ok (.tuple #[], H') ∧ Havoc r.fam H H' ∧ ∃ r', H'.get id = some (.row r') ∧ ∀ i x, (srt L)[i]? = some x → r'.cells[off + i]? = some (some (.int .i64 x)) := by
  subst hn
  have hrow : H.row id = .ok r := by unfold AH.row; rw [hr]
  have hlen := srt_len L
  cases hl : L.length with
  | zero =>
    have : L = [] := List.eq_nil_of_length_eq_zero hl
    subst this
    exact ⟨H, rfl, Havoc.refl _ H, r, hr, fun i x hx => by simp [srt] at hx⟩
  | succ n =>
    have hk : takeK (r.cells.drop off) (n + 1) = .ok (L.map (Value.int .i64)) := by
      have h1 := takeK_fn (n + 1) (r.cells.drop off) (fun i => .int .i64 (L.getD i 0)) (fun i hi => by
        have h3 : L[i]? = some (L.getD i 0) := by rw [List.getD_eq_getElem?_getD, List.getElem?_eq_getElem (by omega)]; rfl
        rw [List.getElem?_drop]
        exact hc i _ h3)
      rw [h1]
      congr 1
      apply List.ext_getElem?
      intro i
      rw [List.getElem?_map, List.getElem?_map]
      by_cases hi : i < n + 1
      · rw [List.getElem?_range hi, List.getElem?_eq_getElem (show i < L.length by omega)]
        show some (Value.int .i64 (L.getD i 0)) = _
        rw [List.getD_eq_getElem?_getD, List.getElem?_eq_getElem (show i < L.length by omega)]
        rfl
      · rw [List.getElem?_eq_none (by rw [List.length_range]; omega), List.getElem?_eq_none (by omega)]; rfl
    have hz : ∀ L : List Int, intsOf (L.map (Value.int .i64)) = some L := by
      intro L
      induction L with
      | nil => rfl
      | cons x l ih => show (intsOf (l.map (Value.int .i64))).map (x :: ·) = _; rw [ih]; rfl
    obtain ⟨H1, w1, w2⟩ := write_any (H := H) (id := id) (off := off) (r := r) (vs := (srt L).map (Value.int .i64)) hr hro (by rw [List.all_eq_true]; intro y hy; obtain ⟨x, _, rfl⟩ := List.mem_map.1 hy; rfl) (by rw [List.length_map, hlen]; exact hb)
    refine ⟨H1, ?_, w2, ?_⟩
    · show (H.row id >>= fun r => _) = _
      simp only [hrow, bind, Except.bind, hk, hz, w1]
      rw [if_pos hg]
    · obtain ⟨r1, k1, k2, _⟩ := w2.fam id r hr rfl
      refine ⟨r1, k1, fun i x hx => ?_⟩
      unfold AH.write at w1
      have hp : ((srt L).map (Value.int .i64)).all plainCell = true := by rw [List.all_eq_true]; intro y hy; obtain ⟨x, _, rfl⟩ := List.mem_map.1 hy; rfl
      simp only [hrow, bind, Except.bind, hro, hp, Bool.false_eq_true, if_false, Bool.not_true] at w1
      have hb2 : off + ((srt L).map (Value.int .i64)).length ≤ r.cells.length := by rw [List.length_map, hlen]; exact hb
      rw [if_pos hb2] at w1
      have h3 := Except.ok.inj w1
      rw [← h3, AH.get_set, if_pos rfl] at k1
      have h4 := AO.row.inj (Option.some.inj k1)
      rw [← h4]
      show (spliceL r.cells off (((srt L).map (Value.int .i64)).map some))[off + i]? = _
      have hi : i < (srt L).length := lt_of_get hx
      rw [splice_get _ _ _ (by rw [List.length_map]; exact hb2), if_pos ⟨by omega, by rw [List.length_map, List.length_map]; omega⟩, show off + i - off = i by omega, List.getElem?_map, List.getElem?_map, hx]
      rfl

/-- a cell of a row, known in another way -/
theorem HInv.recell {e : Env} {fr : List PRow} {tk : List Nat} {H : AH} (h : HInv e fr tk H) {k id off : Nat} {R : PRow} {p : PV} (hk : e.rows[k]? = some id) (hR : fr[k]? = some R) (hz : Nat.beq R.esz mapE = false) (hoff : off < R.cells.length)
    (hp : ∀ v, (∀ r, H.get id = some (.row r) → r.cells[off]? = some (some v)) → (∀ q, R.cells[off]? = some q → RV e tk H true q v) → RV e tk H true p v) : HInv e (fr.set k ⟨R.esz, R.cells.set off p⟩) tk H := by
  refine ⟨h.wf, by rw [List.length_set]; exact h.rlen, h.rnd, fun j jd R' hj hR' => ?_, h.tlen, h.tsep, h.tlt, h.tfr⟩
  by_cases e1 : j = k
  · subst e1
    rw [hk] at hj; cases hj
    rw [List.getElem?_set_self (lt_of_get hR)] at hR'
    cases hR'
    obtain ⟨r, vs, h2, h3, h4, h5, h6, h7, h8⟩ := (h.row j id R hk hR).row hz
    refine .inl ⟨fun e1 => by rw [e1] at hz; exact absurd hz (by decide), r, vs, h2, h3, h4, h5, h6, h7, by rw [List.length_set]; exact h8.1, fun i q v hq hv => ?_⟩
    rw [List.getElem?_set] at hq
    split at hq
    · rename_i e2; subst e2
      first | (rw [if_pos hoff] at hq; cases hq) | cases hq
      refine hp v (fun r' hr' => ?_) (fun q hq => h8.2 off q v hq hv)
      rw [h2] at hr'; cases hr'
      rw [h7, List.getElem?_map, hv]; rfl
    · exact h8.2 i q v hq hv
  · rw [List.getElem?_set_ne (Ne.symm e1)] at hR'
    exact h.row j jd R' hj hR'

def ints (L : List Int) : List (List PV) := L.map fun i => [.val (.int .i64 i)]

/-- a list of whole numbers, off a row that holds them -/
theorem rv_ints {e : Env} {tk : List Nat} {H H' : AH} {L L2 : List Int} {t : Nat} {v : Value} {F : Nat} (hl : L2.length = L.length) (h : RV e tk H true (.list 1 (ints L) (some t)) v) (hne : v ≠ .slice none 0 0) (hF : ∀ id off c r, v = .slice (some ⟨id, off, none⟩) L.length c → H.get id = some (.row r) → r.fam = F) (hv : Havoc F H H')
    (hc : ∀ id off c, v = .slice (some ⟨id, off, none⟩) L.length c → ∃ r', H'.get id = some (.row r') ∧ ∀ i x, L2[i]? = some x → r'.cells[off + i]? = some (some (.int .i64 x))) : RV e tk H' true (.list 1 (ints L2) (some t)) v := by
  have hlm : (ints L).length = L.length := List.length_map _
  have hlm2 : (ints L2).length = L.length := by rw [← hl]; exact List.length_map _
  generalize hI : ints L = l at h hlm
  cases h with
  | lnil ht => exact absurd rfl hne
  | @list _ _ _ _ id off c n' r w0 hr hn' hs he hcp hw' hzz hp hvv hh ht =>
    rw [hlm] at *
    obtain ⟨r', hr', hcell⟩ := hc id off c rfl
    have hfam := hF id off c r rfl hr
    obtain ⟨r2, m1, m2, _⟩ := hv.fam id r hr hfam
    rw [hr'] at m1; cases m1
    have hel : ∀ (i : Nat) (cs : List PV) (j : Nat) (p : PV), (ints L2)[i]? = some cs → cs[j]? = some p → ∃ x, L2[i]? = some x ∧ j = 0 ∧ p = PV.val (.int .i64 x) := fun i cs j p hi hj => by
      unfold ints at hi
      rw [List.getElem?_map, Option.map_eq_some_iff] at hi
      obtain ⟨x, hx, rfl⟩ := hi
      have hj0 : j = 0 := by have := lt_of_get hj; simp at this; omega
      subst hj0
      exact ⟨x, hx, rfl, (Option.some.inj hj).symm⟩
    have main := RV.list (e := e) (tk := tk) (H := H') (b := true) (sz := 1) (l := ints L2) (t := some t) (id := id) (off := off) (c := c) (n := n') (r := r')
      (fun i _ => .int .i64 (L2.getD i 0)) hr' (by rw [hlm2]; exact hn') ⟨by rw [hv.next]; exact hs.lt, by rw [hv.next, m2.fam]; exact hs.flt, by rw [m2.fam, m2.disp]; exact hs.x, hs.row, fun t' τ' n2 e1 e2 e3 => by rw [m2.disp]; exact hs.tok t' τ' n2 e1 e2 (m2.fam ▸ e3)⟩ (m2.esz.trans he)
      (by rw [hlm2]; exact hcp) (by rw [hlm2, m2.len]; omega) (fun i cs hi => by
        unfold ints at hi
        rw [List.getElem?_map, Option.map_eq_some_iff] at hi
        obtain ⟨y, hy, rfl⟩ := hi
        rfl)
      (fun i cs j p hi hj => by obtain ⟨x, _, _, rfl⟩ := hel i cs j p hi hj; rfl)
      (fun i cs j p hi hj => by
        obtain ⟨x, hx, rfl, rfl⟩ := hel i cs j p hi hj
        rw [show off + i * 1 + 0 = off + i by omega, List.getD_eq_getElem?_getD, hx]
        exact hcell i x hx)
      (fun i cs j p hi hj => by
        obtain ⟨x, hx, rfl, rfl⟩ := hel i cs j p hi hj
        rw [List.getD_eq_getElem?_getD, hx]
        exact RV.val rfl)
      (fun k hk => by
        obtain ⟨hb, n0, q1, q2, q3⟩ := ht k hk
        refine ⟨hb, n0, q1, by rw [hlm2]; exact q2, fun h4 => ?_⟩
        obtain ⟨τ, k1, k2, k3, k4, k5, k6⟩ := q3 (by rw [hlm2] at h4; exact h4)
        exact ⟨τ, k1, m2.fam.trans k2, by rw [m2.disp]; exact k3, k4, m2.ro.trans k5, by rw [hlm2]; exact k6⟩)
    rw [hlm2] at main
    exact main

/-- **slices.Sort of a list of one's own, which lies in a row** -/
theorem PO.sort {rnd : Option Nat} {all os : List Oper} {s : PS} {Q : PS → Prop} {d0 : Nat} {d1 : Option Tmp} {xp : Operand} {g : FuncId} {ty tl t1 t2 : TypeId} {p1 p2 : String} {f1 f2 : Array Edge} {L L2 : List Int} {t k off : Nat} {R : PRow} (es : List (Nat × PV)) (hL : srt L = L2)
    (hs : O.s g = true) (ht : tAgg P tl = .ok false) (hx : s.ev xp = some (.ptr k off)) (hR0 : s.fr[k]? = some R) (hz : Nat.beq R.esz mapE = false) (hcell : R.cells[off]? = some (.list 1 (ints L) (some t))) (hc0 : s.can (some d0) = true) (hc1 : s.can d1 = true) (hlen : s.tk[t]? = some L.length) (ht0 : Nat.ble s.t0 t = true) (hms : s.ms = [none] ∨ s.ms = [])
    (hg : L.length < 4611686018427387904) (hes : ∀ y ∈ es, s.tm.get y.1 = some y.2 ∧ Ap 1 y.2 ∧ Nat.beq y.1 d0 = false ∧ d1 ≠ some y.1) (hfr : ∀ R' ∈ s.fr.set k ⟨R.esz, R.cells.set off (.val (.bool false))⟩, ∀ p ∈ R'.cells, Ap 1 p)
    (h : PO P O rnd all os (PS.ofm s.ms s.n es (s.fr.set k ⟨R.esz, R.cells.set off (.list 1 (ints L2) (some t))⟩) s.tk s.r0 s.t0) Q) :
    PO P O rnd all (⟨some d0, .load tl xp, t1, p1, f1, none⟩ :: ⟨d1, .call ⟨.value (.func g), #[.tmp d0], #[ty]⟩, t2, p2, f2, none⟩ :: os) s Q := fun C e a H hR => by
  subst hL
  have hI := hR.h.inv
  obtain ⟨u, hu1, hu2⟩ := hR.ev hx
  cases hu2 with
  | @ptr _ _ id hk =>
  obtain ⟨r0, vs, h2, h3, h4, h5, h6, h7, h8⟩ := (hI.row k id R hk hR0).row hz
  have hoffc : off < R.cells.length := lt_of_get hcell
  obtain ⟨v, hv0, hv1⟩ := h8.at hcell
  have hrow0 : H.row id = .ok r0 := by unfold AH.row; rw [h2]
  have hld : aLoad P H tl id off = .ok v := by
    simp only [aLoad, hrow0, bind, Except.bind, ht, h7, List.getElem?_map, hv0]
    rfl
  have ht0' : s.t0 ≤ t := Nat.le_of_ble_eq_true ht0
  have hn1 : a.n = s.n := hR.n
  have hcan : ∀ d, s.can (some d) = true → @LT.lt Nat _ d 281474976710654 := fun d hc => by
    have hc' := hR.can hc
    obtain ⟨tm, n, ms⟩ := a
    have hc2 : pick (Nat.ble (Nat.succ d) n) (Nat.ble n 281474976710654) false = true := hc'
    cases hb : Nat.ble (Nat.succ d) n with
    | false => rw [hb] at hc2; cases hc2
    | true =>
      rw [hb] at hc2
      have hc3 : Nat.ble n 281474976710654 = true := hc2
      rw [Nat.ble_eq] at hb hc3
      omega
  have hd0 := hcan d0 hc0
  have hget : ∀ (b : AAct) (d : Nat) (u : Value) (k : Nat), @LT.lt Nat _ d 281474976710654 → (b.upd (some d) u).tm.get k = if k = d then some u else b.tm.get k := fun b d u k hd => by
    obtain ⟨tm, n, ms⟩ := b
    show (T.put AH.top tm d u).get k = _
    exact T.get_put 48 _ _ _ _ (by have : 2 ^ 48 = 281474976710656 := rfl; omega)
  have nb : ∀ {m n : Nat}, Nat.beq m n = false → m ≠ n := fun h e1 => by subst e1; rw [Nat.beq_refl] at h; cases h
  refine WO.one (wanted_free rfl) rfl (v := v) (H1 := H) ⟨0, by simp only [aOp, AAct.ev_eval hu1, bind, Except.bind, addrOf, hld]⟩ (hR.can hc0) ?_
  have hcall : ∀ (R1 : Value → AH → Prop), WF1 P O g [v] H R1 → (∀ w H', R1 w H' → WO P O rnd all os ((a.upd (some d0) v).upd d1 w) H' (UpO C Q)) → WO P O rnd all (⟨d1, .call ⟨.value (.func g), #[.tmp d0], #[ty]⟩, t2, p2, f2, none⟩ :: os) (a.upd (some d0) v) H (UpO C Q) := fun R1 hw1 hk =>
    WO.call rfl (wanted_free rfl) (by
      have h2 : (a.upd (some d0) v).tm.get d0 = some v := by rw [hget _ _ _ _ hd0, if_pos rfl]
      have h3 : (a.upd (some d0) v).ev (.tmp d0) = some v := h2
      show allR _ [Operand.tmp d0] = _
      simp only [allR, AAct.ev_eval h3]; rfl) (by obtain ⟨tm, n, ms⟩ := a; exact hR.can hc1) hw1 hk
  have fin : ∀ (w : Value) (H' : AH), RelH C e (s.fr.set k ⟨R.esz, R.cells.set off (.list 1 (ints (srt L)) (some t))⟩) s.tk H' → (∀ m, H.get m = some (.mark true) → H'.get m = some (.mark true)) → (∀ y ∈ es, ∀ u, RV e s.tk H true y.2 u → RV e s.tk H' true y.2 u) → WO P O rnd all os ((a.upd (some d0) v).upd d1 w) H' (UpO C Q) := fun w H' hRH hmk hvs => by
    have hupd : ∀ k, k ≠ d0 → d1 ≠ some k → ((a.upd (some d0) v).upd d1 w).tm.get k = a.tm.get k := fun k h0 h1 => by
      cases d1 with
      | none =>
        show (a.upd (some d0) v).tm.get k = _
        rw [hget _ _ _ _ hd0, if_neg h0]
      | some d1 =>
        have hd1 := hcan d1 hc1
        rw [hget _ _ _ _ hd1, if_neg (fun e1 => h1 (by rw [e1])), hget _ _ _ _ hd0, if_neg h0]
    refine h C e _ H' ⟨hRH, by cases d1 <;> exact hn1, ?_, hR.r0, hR.t0, fun k p hp => ?_⟩
    · have hm := hR.marks
      show MarksR C.H0.next s.ms _ H'
      have hmarks : ((a.upd (some d0) v).upd d1 w).marks = a.marks := by cases d1 <;> rfl
      rcases hms with e1 | e1
      · rw [e1] at hm ⊢
        refine ⟨fun d hd => ?_, fun i j m hi hj => hm.nd i j m (by rw [← hmarks]; exact hi) (by rw [← hmarks]; exact hj)⟩
        rw [hmarks] at hd
        have := hm.rel d hd
        cases d with
        | mark m => exact ⟨this.1, hmk m this.2⟩
        | call f vs => exact this
      · rw [e1] at hm ⊢
        exact MarksR.nil (by rw [hmarks]; exact hm.none)
    · have hmem := of_get es k p (by have hp2 := hp; simp only [PS.ofm] at hp2; exact hp2)
      obtain ⟨k1, _, k3, k4⟩ := hes _ hmem
      obtain ⟨u, q1, q2⟩ := hR.tm k p k1
      exact ⟨u, by rw [hupd k (nb k3) k4]; exact q1, hvs _ hmem u q2⟩
  have relset : ∀ (H' : AH) (fr' fr2 : List PRow), RelH C e fr' s.tk H' → HInv e fr2 s.tk H' → RelH C e fr2 s.tk H' := fun H' fr' fr2 hr hi => ⟨hi, hr.ext, hr.frame, hr.cw, hr.x, hr.x0⟩
  have hlm : (ints L).length = L.length := List.length_map _
  by_cases hv00 : v = .slice none 0 0
  · have hL0 : L = [] := by
      rw [hv00] at hv1
      generalize hI2 : ints L = l at hv1 hlm
      cases hv1 with
      | lnil _ =>
        have := List.map_eq_nil_iff.mp hI2
        exact this
    subst hL0
    have hso : sortAns [v] H = .ok (.tuple #[], H) := by rw [hv00]; rfl
    refine hcall _ (WF1.sort (Q := fun _ H' => H' = H) hs hso rfl) fun w H1 e1 => ?_
    subst e1
    have hsrt : srt [] = [] := by simp [srt]
    refine fin w H1 (relset _ _ _ hR.h ?_) (fun _ h => h) (fun _ _ _ h => h)
    refine hI.recell hk hR0 hz hoffc fun v' _ hq => ?_
    rw [hsrt]
    exact hq _ hcell
  · obtain ⟨id', off', c, r, rfl, hr, hro, hfam, hfit, hcells, hτ⟩ : ∃ id' off' c r, v = .slice (some ⟨id', off', none⟩) L.length c ∧ H.get id' = some (.row r) ∧ r.ro = false ∧ (C.H0.next ≤ r.fam ∧ r.fam ∉ e.rows) ∧ off' + L.length ≤ r.cells.length ∧ (∀ i x, L[i]? = some x → r.cells[off' + i]? = some (some (.int .i64 x))) ∧ r.esz = 1 := by
      have hv2 := hv1
      generalize hI2 : ints L = l at hv1 hlm
      cases hv1 with
      | lnil _ => exact absurd rfl hv00
      | @list _ _ _ _ id' off' c n' r w0 hr hn' hs' he hcp hw' hzz hp hvv hh ht' =>
        rw [hlm] at *
        obtain ⟨hb, n0, q1, q2, q3⟩ := ht' t rfl
        rw [hlen] at q1
        have hl0 := Option.some.inj q1
        obtain ⟨τ, k1, k2, k3, k4, k5, k6⟩ := q3 hl0
        have hF : C.H0.next ≤ r.fam := by
          rw [k2]
          rcases hR.h.ext.tok t τ k1 with h4 | h4
          · have := lt_of_get h4; have := hR.t0; omega
          · exact h4
        have hnr : r.fam ∉ e.rows := by rw [k2]; exact hI.tfr t τ k1
        refine ⟨id', off', c, r, rfl, hr, k5, ⟨hF, hnr⟩, by omega, fun i x hx => ?_, he⟩
        have h4' : l[i]? = some [PV.val (.int .i64 x)] := by rw [← hI2]; unfold ints; rw [List.getElem?_map, hx]; rfl
        have h5' := hvv i _ 0 _ h4' rfl
        have h6' := hh i _ 0 _ h4' rfl
        rw [show off' + i * 1 + 0 = off' + i by omega] at h5'
        rw [h5']
        generalize w0 i 0 = u at h6'
        cases h6'; rfl
    obtain ⟨H', z1, z2, r', z3, z4⟩ := sort_run (c := c) hr hro rfl hfit hg hcells
    refine hcall _ (WF1.sort (Q := fun _ H2 => H2 = H') hs z1 rfl) fun w H2 e1 => ?_
    subst e1
    have hplain : plainCell (.slice (some ⟨id', off', none⟩) L.length c) = true := rfl
    have hweak : RelH C e (s.fr.set k ⟨R.esz, R.cells.set off (.val (.slice (some ⟨id', off', none⟩) L.length c))⟩) s.tk H := relset _ _ _ hR.h (hI.recell hk hR0 hz hoffc fun v' hv' _ => by
      have := hv' r0 h2
      rw [h7, List.getElem?_map, hv0] at this
      cases this
      exact .val rfl)
    have hap : ∀ R' ∈ s.fr.set k ⟨R.esz, R.cells.set off (.val (.slice (some ⟨id', off', none⟩) L.length c))⟩, ∀ p ∈ R'.cells, Ap 1 p := fun R' hR' p hp => by
      obtain ⟨j, hj⟩ := List.mem_iff_getElem?.1 hR'
      by_cases e1 : j = k
      · subst e1
        rw [List.getElem?_set_self (lt_of_get hR0)] at hj
        cases hj
        obtain ⟨i, hi⟩ := List.mem_iff_getElem?.1 hp
        have hi' : (R.cells.set off (.val (.slice (some ⟨id', off', none⟩) L.length c)))[i]? = some p := hi
        rw [List.getElem?_set] at hi'
        split at hi'
        · rename_i e2; subst e2
          first | (rw [if_pos hoffc] at hi'; cases hi') | cases hi'
          exact .val _
        · rename_i e2
          refine hfr ⟨R.esz, R.cells.set off (.val (.bool false))⟩ (List.mem_of_getElem? (List.getElem?_set_self (lt_of_get hR0))) p (List.mem_of_getElem? (i := i) ?_)
          show (R.cells.set off (.val (.bool false)))[i]? = some p
          rw [List.getElem?_set, if_neg e2]; exact hi'
      · rw [List.getElem?_set_ne (Ne.symm e1)] at hj
        exact hfr R' (List.mem_of_getElem? (i := j) (by rw [List.getElem?_set_ne (Ne.symm e1)]; exact hj)) p hp
    have hmid := hweak.havoc hfam.1 hfam.2 hr rfl hro hτ (by decide) hap z2
    refine fin w H2 (relset _ _ _ hmid ?_) (fun m h => z2.oth m _ h (fun r e _ => by cases e)) (fun y hy u hu => hu.havoc hI.wf hr rfl hro hτ (by decide) z2 (hes y hy).2.1)
    have hRw : (s.fr.set k ⟨R.esz, R.cells.set off (.val (.slice (some ⟨id', off', none⟩) L.length c))⟩)[k]? = some ⟨R.esz, R.cells.set off (.val (.slice (some ⟨id', off', none⟩) L.length c))⟩ := List.getElem?_set_self (lt_of_get hR0)
    have hfin := hmid.inv.recell (p := .list 1 (ints (srt L)) (some t)) (off := off) hk hRw hz (by show off < (R.cells.set off _).length; rw [List.length_set]; exact hoffc) fun v' _ hq => by
      have h9 := hq (.val (.slice (some ⟨id', off', none⟩) L.length c)) (by show (R.cells.set off _)[off]? = _; rw [List.getElem?_set, if_pos rfl, if_pos hoffc])
      have := h9.bool_inv
      subst this
      refine rv_ints (F := r.fam) (srt_len L) hv1 hv00 (fun id2 off2 c2 r2 e1 e2 => ?_) z2 (fun id2 off2 c2 e1 => ?_)
      · cases e1; rw [hr] at e2; cases e2; rfl
      · cases e1; exact ⟨r', z3, z4⟩
    simp only [List.set_set] at hfin
    exact hfin
end
end Go.Eng
