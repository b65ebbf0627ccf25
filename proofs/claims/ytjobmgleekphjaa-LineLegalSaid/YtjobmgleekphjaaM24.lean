/-
  A store into a list of one's own, whose row no other value knows: the region 'b[at] = b[at] ^ (1 << bit)'.
-/
import Derived.Test.YtjobmgleekphjaaM23
set_option linter.unusedVariables false
set_option linter.unusedSimpArgs false
namespace Go.Eng
noncomputable section
variable {P : Program} {O : FuncId → Option Value}

theorem splice_at {l : List (Option Value)} {o : Nat} {x : Option Value} (h : o < l.length) (j : Nat) : (spliceL l o [x])[j]? = if j = o then some x else l[j]? := by
  have e : spliceL l o [x] = l.set o x := by
    unfold spliceL
    apply List.ext_getElem?
    intro j
    rw [List.getElem?_set]
    by_cases h1 : j < o
    · rw [if_neg (by omega), List.append_assoc, List.getElem?_append_left (by rw [List.length_take]; omega), List.getElem?_take, if_pos h1]
    · by_cases h2 : j = o
      · subst h2
        rw [if_pos rfl, if_pos h, List.append_assoc, List.getElem?_append_right (by rw [List.length_take]; omega), List.length_take, show j - min j l.length = 0 by omega]; rfl
      · rw [if_neg (by omega), List.getElem?_append_right (by rw [List.length_append, List.length_take, List.length_singleton]; omega), List.getElem?_drop]
        congr 1
        simp only [List.length_append, List.length_take, List.length_singleton]; omega
  rw [e, List.getElem?_set]
  by_cases h2 : o = j
  · subst h2; rw [if_pos rfl, if_pos rfl, if_pos h]
  · rw [if_neg h2, if_neg (Ne.symm h2)]

/-- **a store into a list whose family is one's own, where all else that is known is plain** -/
theorem store_tok {α : Type} {vI : α → Value} (hvI : ∀ x, plainCell (vI x) = true) {C : Ctx} {e : Env} {H : AH} {n : Nat} {L : List α} {v : Value} {at_ : Nat} {y : α} (hR : RelH C e [] [n] H) (ht0 : C.toks.length = 0) (hv : RV e [n] H true (.list 1 (L.map fun x => [PV.val (vI x)]) (some 0)) v) (hn : L.length = n) (hat : at_ < L.length) :
    ∃ id off c H1, v = .slice (some ⟨id, off, none⟩) L.length c ∧ (∃ r, H.get id = some (.row r) ∧ (∀ i x, L[i]? = some x → r.cells[off + i]? = some (some (vI x)))) ∧ H.write id (off + at_) [vI y] = .ok H1 ∧ RelH C e [] [n] H1 ∧ RV e [n] H1 true (.list 1 ((L.set at_ y).map fun x => [PV.val (vI x)]) (some 0)) v ∧ (∀ m, H.get m = some (.mark true) → H1.get m = some (.mark true)) := by
  have hlm : (L.map fun x => [PV.val (vI x)]).length = L.length := List.length_map _
  generalize hl : (L.map fun x => [PV.val (vI x)]) = l at hv hlm
  cases hv with
  | lnil ht => simp at hlm; omega
  | @list _ _ _ _ id off c n' r w hr hn' hs he hc hw hz hp hvv h ht =>
  rw [hlm] at *
  obtain ⟨_, n0, h1, h2, h3⟩ := ht 0 rfl
  have hn0 : n = n0 := by simpa using h1
  obtain ⟨τ, k1, k2, k3, k4, k5, k6⟩ := h3 (by omega)
  have hcell : ∀ i x, L[i]? = some x → r.cells[off + i]? = some (some (vI x)) := fun i x hi => by
    have h4 : l[i]? = some [PV.val (vI x)] := by rw [← hl, List.getElem?_map, hi]; rfl
    have h5 := hvv i _ 0 _ h4 rfl
    have h6 := h i _ 0 _ h4 rfl
    rw [show off + i * 1 + 0 = off + i by omega] at h5
    rw [h5]
    generalize w i 0 = u at h6
    cases h6; rfl
  let r1 : Row := { r with cells := spliceL r.cells (off + at_) [some (vI y)] }
  let H1 : AH := (if r.solo = true then H else H.blur r.fam (r.disp + (off + at_)) (r.disp + (off + at_) + 1)).set id (.row r1)
  have hwrite : H.write id (off + at_) [vI y] = .ok H1 := by
    unfold AH.write
    have hrow : H.row id = .ok r := by unfold AH.row; rw [hr]
    simp only [hrow, bind, Except.bind, k5, List.all_cons, hvI, List.all_nil, Bool.and_self, Bool.false_eq_true, if_false, Bool.not_true, List.length_singleton]
    rw [if_pos (by omega)]
    have e1 : ({ cells := spliceL r.cells (off + at_) (List.map some [vI y]), ty := r.ty, fam := r.fam, disp := r.disp, esz := r.esz, ro := false, solo := r.solo } : Row) = r1 := by
      show _ = ({ r with cells := _ } : Row)
      rw [← k5]; rfl
    rw [e1]
  have hget : ∀ j, H1.get j = if j = id then some (.row r1) else (if r.solo = true then H.get j else (H.get j).map (AO.blur r.fam (r.disp + (off + at_)) (r.disp + (off + at_) + 1))) := fun j => by
    show (AH.set _ id (.row r1)).get j = _
    rw [AH.get_set]
    by_cases hj : j = id
    · rw [if_pos hj, if_pos hj]
    · rw [if_neg hj, if_neg hj]
      cases hso : r.solo with
      | true => rfl
      | false => simp only [Bool.false_eq_true, if_false]; rw [AH.get_blur]
  have hnext : H1.next = H.next := by
    show (AH.set _ id (.row r1)).next = _
    rw [AH.set_next]
    split <;> rfl
  have hoth : ∀ j o, H.get j = some o → (∀ r', o = .row r' → r'.fam ≠ r.fam) → H1.get j = some o := fun j o hj hno => by
    have hne : j ≠ id := fun e1 => by subst e1; rw [hr] at hj; cases hj; exact hno r rfl rfl
    rw [hget, if_neg hne]
    split
    · exact hj
    · rw [hj]
      cases o with
      | row r' => simp only [Option.map_some, AO.blur, if_neg (hno r' rfl)]
      | _ => rfl
  have hback : ∀ j o, H1.get j = some o → ∃ o', H.get j = some o' ∧ ∀ r', o = .row r' → ∃ r'', o' = .row r'' ∧ r'.fam = r''.fam := fun j o hj => by
    rw [hget] at hj
    split at hj
    · rename_i e1; subst e1; cases hj
      exact ⟨_, hr, fun r' e2 => by cases e2; exact ⟨r, rfl, rfl⟩⟩
    · split at hj
      · exact ⟨o, hj, fun r' e2 => ⟨r', e2, rfl⟩⟩
      · rw [Option.map_eq_some_iff] at hj
        obtain ⟨o', h4, h5⟩ := hj
        refine ⟨o', h4, fun r' e2 => ?_⟩
        rw [e2] at h5
        obtain ⟨r0, e3, e4, _⟩ := row_blur h5
        exact ⟨r0, e3, e4⟩
  have hnone : ∀ j, H.get j = none → H1.get j = none := fun j hj => by
    rw [hget, if_neg (fun e1 => by subst e1; rw [hr] at hj; cases hj)]
    split
    · exact hj
    · rw [hj]; rfl
  have hnew : C.H0.next ≤ τ.fam := by
    rcases hR.ext.tok 0 τ k1 with h4 | h4
    · have := lt_of_get h4; omega
    · exact h4
  have hrows : e.rows = [] := List.eq_nil_of_length_eq_zero (by have := hR.inv.rlen; simpa using this)
  have hwf : WF0 H1 := ⟨fun j o hj => by rw [hnext]; obtain ⟨o', h4, _⟩ := hback j o hj; exact hR.inv.wf.lt j o' h4, fun j r' hj => by
    rw [hnext]
    obtain ⟨o', h4, h5⟩ := hback j _ hj
    obtain ⟨r'', rfl, h6⟩ := h5 r' rfl
    rw [h6]; exact hR.inv.wf.fam j r'' h4, esz_of hR.inv.wf fun j r' hj => by
    rw [hget] at hj
    split at hj
    · cases hj; exact .inr ⟨id, r, hr, rfl, rfl, rfl⟩
    · split at hj
      · exact .inr ⟨j, r', hj, rfl, rfl, rfl⟩
      · rw [Option.map_eq_some_iff] at hj
        obtain ⟨o', h4, h5⟩ := hj
        cases o' with
        | row r0 =>
          simp only [AO.blur] at h5
          split at h5
          · cases h5; exact .inr ⟨j, _, h4, rfl, rfl, rfl⟩
          · cases h5; exact .inr ⟨j, _, h4, rfl, rfl, rfl⟩
        | _ => cases h5⟩
  have hfr : Frame C H1 := by
    refine ⟨by rw [hnext]; exact hR.frame.next, fun j r0 hj hid => ?_, fun j o hj hno => hoth j o (hR.frame.oth j o hj hno) (fun r' e1 => (hno r' e1).elim), fun j h4 h5 => hnone j (hR.frame.gone j h4 h5)⟩
    obtain ⟨r', h4, h5, h6, h7⟩ := hR.frame.row j r0 hj hid
    refine ⟨r', hoth j _ h4 (fun r'' e1 => ?_), h5, h6, h7⟩
    cases e1
    have := hR.cw.wf.fam j r0 hj
    rw [h5.fam, k2]; omega
  have hR1 : RelH C e [] [n] H1 := ⟨⟨hwf, hR.inv.rlen, hR.inv.rnd, fun k id R _ hR' => by simp at hR', hR.inv.tlen, hR.inv.tsep, fun t τ ht => by rw [hnext]; exact hR.inv.tlt t τ ht, hR.inv.tfr⟩, hR.ext, hfr, hR.cw, hR.x, hR.x0⟩
  have hr1 : H1.get id = some (.row r1) := by rw [hget, if_pos rfl]
  have hlen1 : r1.cells.length = r.cells.length := splice_length _ _ _ (by simp only [List.length_singleton]; omega)
  have hlm2 : ((L.set at_ y).map fun x => [PV.val (vI x)]).length = L.length := by rw [List.length_map, List.length_set]
  have hel : ∀ i cs j p, ((L.set at_ y).map fun x => [PV.val (vI x)])[i]? = some cs → cs[j]? = some p → ∃ x, (L.set at_ y)[i]? = some x ∧ j = 0 ∧ p = PV.val (vI x) := fun i cs j p hi hj => by
    rw [List.getElem?_map, Option.map_eq_some_iff] at hi
    obtain ⟨x, hx, rfl⟩ := hi
    have hj0 : j = 0 := by have := lt_of_get hj; simp at this; omega
    subst hj0
    have hp : PV.val (vI x) = p := Option.some.inj hj
    exact ⟨x, hx, rfl, hp.symm⟩
  refine ⟨id, off, c, H1, rfl, ⟨r, hr, hcell⟩, hwrite, hR1, ?_, fun m hm => hoth m _ hm (fun r' e1 => by cases e1)⟩
  have main := RV.list (e := e) (tk := [n]) (H := H1) (b := true) (sz := 1) (l := (L.set at_ y).map fun x => [PV.val (vI x)]) (t := some 0) (id := id) (off := off) (c := c) (n := n') (r := r1)
    (fun i _ => (((L.set at_ y)[i]?).map vI).getD undef) hr1 (by rw [hlm2]; exact hn') ⟨by rw [hnext]; exact hs.lt, by rw [hnext]; exact hs.flt, hs.x, hs.row, hs.tok⟩ he
    (by rw [hlm2]; exact hc) (by rw [hlm2, hlen1]; exact hw) (fun i cs hi => by
      rw [List.getElem?_map, Option.map_eq_some_iff] at hi
      obtain ⟨x, hx, rfl⟩ := hi
      rfl)
    (fun i cs j p hi hj => by obtain ⟨x, _, _, rfl⟩ := hel i cs j p hi hj; exact hvI x)
    (fun i cs j p hi hj => by
      obtain ⟨x, hx, rfl, rfl⟩ := hel i cs j p hi hj
      show (spliceL r.cells (off + at_) [some (vI y)])[off + i * 1 + 0]? = _
      rw [splice_at (by omega), hx]
      rw [List.getElem?_set] at hx
      by_cases h4 : at_ = i
      · subst h4
        rw [if_pos rfl, if_pos hat] at hx
        cases hx
        rw [if_pos (by omega)]; rfl
      · rw [if_neg h4] at hx
        rw [if_neg (by omega), show off + i * 1 + 0 = off + i by omega, hcell i x hx]; rfl)
    (fun i cs j p hi hj => by
      obtain ⟨x, hx, rfl, rfl⟩ := hel i cs j p hi hj
      rw [hx]; exact RV.val (hvI x))
    (fun k hk => by
      cases hk
      exact ⟨rfl, n0, h1, by rw [hlm2]; exact h2, fun _ => ⟨τ, k1, k2, k3, k4, k5, by rw [hlm2]; exact k6⟩⟩)
  rw [hlm2] at main
  exact main


/-! ### A bit turned -/
def bindFlip {β : Type} (L : List Int) (at_ bit : Int) (f : List Int → Option β) : Option β := bindI L at_ fun y => if 0 ≤ bit ∧ bit ≤ 7 then f (L.set at_.toNat (bxor_u8 y (2 ^ bit.toNat))) else none
theorem bindFlipK {β : Type} {L : List Int} {at_ bit : Int} {f : List Int → Option β} {r : β} {p : Prop} (h : bindFlip L at_ bit f = some r) (k : ∀ y, 0 ≤ at_ → L[at_.toNat]? = some y → 0 ≤ bit → bit ≤ 7 → f (L.set at_.toNat (bxor_u8 y (2 ^ bit.toNat))) = some r → p) : p := by
  refine bindIK h fun y h0 h1 h2 => ?_
  split at h2
  · rename_i h3; exact k y h0 h1 h3.1 h3.2 h2
  · cases h2

theorem flip_typed {rnd : Option Nat} {i : Nat} {z : Code} {s : PS} {Q : AX → PS → Prop} {order : List Nat} {tB tE tI el : TypeId} {L L2 : List Int} {at_ bit b m c g1 g2 : Int}
    {y1 : TypeId} {p1 : String} {f1 : Array Edge} {y2 : TypeId} {p2 : String} {f2 : Array Edge} {y3 : TypeId} {p3 : String} {f3 : Array Edge} {y4 : TypeId} {p4 : String} {f4 : Array Edge} {y5 : TypeId} {p5 : String} {f5 : Array Edge} {y6 : TypeId} {p6 : String} {f6 : Array Edge} {y7 : TypeId} {p7 : String} {f7 : Array Edge} {y8 : TypeId} {p8 : String} {f8 : Array Edge} {y9 : TypeId} {p9 : String} {f9 : Array Edge} {y10 : TypeId} {p10 : String} {f10 : Array Edge} {y11 : TypeId} {p11 : String} {f11 : Array Edge}
    (hL : L.set at_.toNat c = L2) (hp : plainDraw P (#[⟨some 67, .move (.tmp 9), y1, p1, f1, none⟩, ⟨some 68, .move (.tmp 1), y2, p2, f2, none⟩, ⟨some 69, .move (.tmp 9), y3, p3, f3, none⟩, ⟨some 70, .move (.tmp 1), y4, p4, f4, none⟩, ⟨some 71, .indexAddr tB (.tmp 69) (.tmp 70), y5, p5, f5, none⟩, ⟨some 72, .load tE (.tmp 71), y6, p6, f6, none⟩, ⟨some 73, .move (.tmp 2), y7, p7, f7, none⟩, ⟨some 74, .binOp .shl tE (.const (.int .u8 1)) (.tmp 73) tI, y8, p8, f8, none⟩, ⟨some 75, .binOp .xor tE (.tmp 72) (.tmp 74) tE, y9, p9, f9, none⟩, ⟨some 76, .indexAddr tB (.tmp 67) (.tmp 68), y10, p10, f10, none⟩, ⟨none, .store tE (.tmp 76) (.tmp 75), y11, p11, f11, none⟩] : Array Oper).toList order = true) (ho : pickO (#[⟨some 67, .move (.tmp 9), y1, p1, f1, none⟩, ⟨some 68, .move (.tmp 1), y2, p2, f2, none⟩, ⟨some 69, .move (.tmp 9), y3, p3, f3, none⟩, ⟨some 70, .move (.tmp 1), y4, p4, f4, none⟩, ⟨some 71, .indexAddr tB (.tmp 69) (.tmp 70), y5, p5, f5, none⟩, ⟨some 72, .load tE (.tmp 71), y6, p6, f6, none⟩, ⟨some 73, .move (.tmp 2), y7, p7, f7, none⟩, ⟨some 74, .binOp .shl tE (.const (.int .u8 1)) (.tmp 73) tI, y8, p8, f8, none⟩, ⟨some 75, .binOp .xor tE (.tmp 72) (.tmp 74) tE, y9, p9, f9, none⟩, ⟨some 76, .indexAddr tB (.tmp 67) (.tmp 68), y10, p10, f10, none⟩, ⟨none, .store tE (.tmp 76) (.tmp 75), y11, p11, f11, none⟩] : Array Oper).toList order = (#[⟨some 67, .move (.tmp 9), y1, p1, f1, none⟩, ⟨some 68, .move (.tmp 1), y2, p2, f2, none⟩, ⟨some 69, .move (.tmp 9), y3, p3, f3, none⟩, ⟨some 70, .move (.tmp 1), y4, p4, f4, none⟩, ⟨some 71, .indexAddr tB (.tmp 69) (.tmp 70), y5, p5, f5, none⟩, ⟨some 72, .load tE (.tmp 71), y6, p6, f6, none⟩, ⟨some 73, .move (.tmp 2), y7, p7, f7, none⟩, ⟨some 74, .binOp .shl tE (.const (.int .u8 1)) (.tmp 73) tI, y8, p8, f8, none⟩, ⟨some 75, .binOp .xor tE (.tmp 72) (.tmp 74) tE, y9, p9, f9, none⟩, ⟨some 76, .indexAddr tB (.tmp 67) (.tmp 68), y10, p10, f10, none⟩, ⟨none, .store tE (.tmp 76) (.tmp 75), y11, p11, f11, none⟩] : Array Oper).toList)
    (hS : P.underlying tB = some (.slice el)) (hs : tSize P el = .ok 1) (hSs : tSize P tE = .ok 1) (hSa : tAgg P tE = .ok false)
    (hsh : gOnly (pureRun P 0 (binOp .shl tE (.int .u8 1) (.int .i64 bit))) = .ok (.int .u8 m)) (hxo : gOnly (pureRun P 0 (binOp .xor tE (.int .u8 b) (.int .u8 m))) = .ok (.int .u8 c))
    (hfr : s.fr = []) (htk : s.tk = [L.length]) (hms : s.ms = []) (ht0 : s.t0 = 0) (hn0 : Nat.ble 77 s.n = true) (hn1 : Nat.ble s.n 281474976710654 = true)
    (h1 : s.tm.get 1 = some (.val (.int .i64 at_))) (h2 : s.tm.get 2 = some (.val (.int .i64 bit))) (h9 : s.tm.get 9 = some (.list 1 (List.map cI_u8 L) (some 0))) (h12 : s.tm.get 12 = some (.val (.int .i64 g1))) (h15 : s.tm.get 15 = some (.val (.int .i64 g2)))
    (hat : 0 ≤ at_) (hb : L[at_.toNat]? = some b)
    (hQ : PC P O rnd z (PS.of s.n [(9, .list 1 (List.map cI_u8 L2) (some 0)), (12, .val (.int .i64 g1)), (15, .val (.int .i64 g2))] [] [L2.length] s.r0 s.t0) Q) :
    PC P O rnd (.seq (.region i #[⟨some 67, .move (.tmp 9), y1, p1, f1, none⟩, ⟨some 68, .move (.tmp 1), y2, p2, f2, none⟩, ⟨some 69, .move (.tmp 9), y3, p3, f3, none⟩, ⟨some 70, .move (.tmp 1), y4, p4, f4, none⟩, ⟨some 71, .indexAddr tB (.tmp 69) (.tmp 70), y5, p5, f5, none⟩, ⟨some 72, .load tE (.tmp 71), y6, p6, f6, none⟩, ⟨some 73, .move (.tmp 2), y7, p7, f7, none⟩, ⟨some 74, .binOp .shl tE (.const (.int .u8 1)) (.tmp 73) tI, y8, p8, f8, none⟩, ⟨some 75, .binOp .xor tE (.tmp 72) (.tmp 74) tE, y9, p9, f9, none⟩, ⟨some 76, .indexAddr tB (.tmp 67) (.tmp 68), y10, p10, f10, none⟩, ⟨none, .store tE (.tmp 76) (.tmp 75), y11, p11, f11, none⟩] true) z) s Q := fun C e a H hR hX => by
  subst hL
  have hlt : at_.toNat < L.length := lt_of_get hb
  have hI0 := hR.h
  rw [hfr, htk] at hI0
  obtain ⟨v9, q9, hv⟩ := hR.tm 9 _ h9
  rw [htk] at hv
  obtain ⟨v1, q1, e1⟩ := hR.tm 1 _ h1
  have := e1.bool_inv; subst this
  obtain ⟨v2, q2, e2⟩ := hR.tm 2 _ h2
  have := e2.bool_inv; subst this
  obtain ⟨v12, q12, e12⟩ := hR.tm 12 _ h12
  have := e12.bool_inv; subst this
  obtain ⟨v15, q15, e15⟩ := hR.tm 15 _ h15
  have := e15.bool_inv; subst this
  obtain ⟨id, off, cp, H1, rfl, ⟨r, hr, hcell⟩, hw, hR1, hv1, hmk⟩ := store_tok (vI := fun x : Int => Value.int .u8 x) (fun _ => rfl) (at_ := at_.toNat) (y := c) hI0 (by rw [hR.t0, ht0]) hv rfl hlt
  have hmark := hR.marks
  rw [hms] at hmark
  let g0 : Nat → Option Value := fun t => if t = 9 then some (.slice (some ⟨id, off, none⟩) L.length cp) else if t = 1 then some (.int .i64 at_) else if t = 2 then some (.int .i64 bit) else if t = 12 then some (.int .i64 g1) else if t = 15 then some (.int .i64 g2) else none
  have K0 : KA a s.n g0 := ⟨hR.n, hmark.none, fun t w hw => by
    replace hw : (if t = 9 then some (Value.slice (some ⟨id, off, none⟩) L.length cp) else if t = 1 then some (.int .i64 at_) else if t = 2 then some (.int .i64 bit) else if t = 12 then some (.int .i64 g1) else if t = 15 then some (.int .i64 g2) else none) = some w := hw
    split at hw
    · rename_i e1; subst e1; cases hw; exact q9
    · split at hw
      · rename_i e1; subst e1; cases hw; exact q1
      · split at hw
        · rename_i e1; subst e1; cases hw; exact q2
        · split at hw
          · rename_i e1; subst e1; cases hw; exact q12
          · split at hw
            · rename_i e1; subst e1; cases hw; exact q15
            · cases hw⟩
  have hnd : ∀ d, d < 77 → Nat.ble (Nat.succ d) s.n = true := fun d hd => by rw [Nat.ble_eq] at hn0 ⊢; omega
  have hrow : H.row id = .ok r := by unfold AH.row; rw [hr]
  have hna : natIn (.int .i64 at_) (L.length - 1) = .ok at_.toNat := by
    unfold natIn
    show (if 0 ≤ at_ ∧ at_ ≤ ((L.length - 1 : Nat) : Int) then (Except.ok at_.toNat : R Nat) else .error 18) = _
    rw [if_pos (by omega)]
  have hld := hcell _ _ hb
  refine WC.drawn hp ?_
  rw [ho]
  have K := K0
  refine WO.ka K (d := 67) (v := .slice (some ⟨id, off, none⟩) L.length cp) (by simp only [aOp, allR, bind, Except.bind, K.eval (t := 9) (v := .slice (some ⟨id, off, none⟩) L.length cp) rfl] <;> rfl) rfl (hnd 67 (by omega)) hn1 fun a K => ?_
  refine WO.ka K (d := 68) (v := .int .i64 at_) (by simp only [aOp, allR, bind, Except.bind, K.eval (t := 1) (v := .int .i64 at_) rfl] <;> rfl) rfl (hnd 68 (by omega)) hn1 fun a K => ?_
  refine WO.ka K (d := 69) (v := .slice (some ⟨id, off, none⟩) L.length cp) (by simp only [aOp, allR, bind, Except.bind, K.eval (t := 9) (v := .slice (some ⟨id, off, none⟩) L.length cp) rfl] <;> rfl) rfl (hnd 69 (by omega)) hn1 fun a K => ?_
  refine WO.ka K (d := 70) (v := .int .i64 at_) (by simp only [aOp, allR, bind, Except.bind, K.eval (t := 1) (v := .int .i64 at_) rfl] <;> rfl) rfl (hnd 70 (by omega)) hn1 fun a K => ?_
  refine WO.ka K (d := 71) (v := .pointer (some ⟨id, off + at_.toNat, none⟩)) (by simp only [aOp, allR, bind, Except.bind, hS, hs, K.eval (t := 69) (v := .slice (some ⟨id, off, none⟩) L.length cp) rfl, K.eval (t := 70) (v := .int .i64 at_) rfl, hna, if_pos hlt, Nat.mul_one] <;> rfl) rfl (hnd 71 (by omega)) hn1 fun a K => ?_
  refine WO.ka K (d := 72) (v := .int .u8 b) (by simp only [aOp, allR, bind, Except.bind, addrOf, aLoad, hrow, hSa, K.eval (t := 71) (v := .pointer (some ⟨id, off + at_.toNat, none⟩)) rfl, hld] <;> rfl) rfl (hnd 72 (by omega)) hn1 fun a K => ?_
  refine WO.ka K (d := 73) (v := .int .i64 bit) (by simp only [aOp, allR, bind, Except.bind, K.eval (t := 2) (v := .int .i64 bit) rfl] <;> rfl) rfl (hnd 73 (by omega)) hn1 fun a K => ?_
  have hc1 : a.eval (.const (.int .u8 1)) = .ok (.int .u8 1) := rfl
  refine WO.ka K (d := 74) (v := .int .u8 m) (by simp only [aOp, allR, bind, Except.bind, hc1, K.eval (t := 73) (v := .int .i64 bit) rfl, bothPtr, Bool.false_eq_true, if_false, aBin, hsh] <;> rfl) rfl (hnd 74 (by omega)) hn1 fun a K => ?_
  refine WO.ka K (d := 75) (v := .int .u8 c) (by simp only [aOp, allR, bind, Except.bind, K.eval (t := 72) (v := .int .u8 b) rfl, K.eval (t := 74) (v := .int .u8 m) rfl, bothPtr, Bool.false_eq_true, if_false, aBin, hxo] <;> rfl) rfl (hnd 75 (by omega)) hn1 fun a K => ?_
  refine WO.ka K (d := 76) (v := .pointer (some ⟨id, off + at_.toNat, none⟩)) (by simp only [aOp, allR, bind, Except.bind, hS, hs, K.eval (t := 67) (v := .slice (some ⟨id, off, none⟩) L.length cp) rfl, K.eval (t := 68) (v := .int .i64 at_) rfl, hna, if_pos hlt, Nat.mul_one] <;> rfl) rfl (hnd 76 (by omega)) hn1 fun a K => ?_
  refine WO.one (wanted_free rfl) rfl (v := undef) (H1 := H1) ⟨0, by simp only [aOp, bind, Except.bind, addrOf, K.eval (t := 76) (v := .pointer (some ⟨id, off + at_.toNat, none⟩)) rfl, K.eval (t := 75) (v := .int .u8 c) rfl, hSs]; rw [if_pos (show (Value.cells (.int .u8 c)).size = 1 from rfl)]; rw [show (Value.cells (.int .u8 c)).toList = [.int .u8 c] from rfl, hw]⟩ rfl ?_
  replace K : KA (a.upd none undef) _ _ := K
  refine WO.nil ?_
  refine hQ C e _ H1 ⟨?_, K.n, ?_, hR.r0, hR.t0, fun t p hp => ?_⟩ hX
  · rw [show (PS.of s.n [(9, .list 1 (List.map cI_u8 (L.set at_.toNat c)) (some 0)), (12, .val (.int .i64 g1)), (15, .val (.int .i64 g2))] [] [(L.set at_.toNat c).length] s.r0 s.t0).tk = [(L.set at_.toNat c).length] from rfl, List.length_set]
    exact hR1
  · exact MarksR.nil K.ms
  · have hmem := of_get [(9, .list 1 (List.map cI_u8 (L.set at_.toNat c)) (some 0)), (12, .val (.int .i64 g1)), (15, .val (.int .i64 g2))] t p (by have hp2 := hp; simp only [PS.of, PS.ofm] at hp2; exact hp2)
    have htk2 : (PS.of s.n [(9, .list 1 (List.map cI_u8 (L.set at_.toNat c)) (some 0)), (12, .val (.int .i64 g1)), (15, .val (.int .i64 g2))] [] [(L.set at_.toNat c).length] s.r0 s.t0).tk = [L.length] := by
      show [(L.set at_.toNat c).length] = _
      rw [List.length_set]
    rw [htk2]
    simp only [List.mem_cons, Prod.mk.injEq, List.not_mem_nil, or_false] at hmem
    rcases hmem with ⟨rfl, rfl⟩ | ⟨rfl, rfl⟩ | ⟨rfl, rfl⟩
    · exact ⟨_, K.tm 9 _ rfl, hv1⟩
    · exact ⟨_, K.tm 12 _ rfl, .val rfl⟩
    · exact ⟨_, K.tm 15 _ rfl, .val rfl⟩

end
end Go.Eng
