/-
  Layer 14: a list that is lent, with a mark behind its end.
-/
import Derived.Test.YtjobmgleekphjaaT3
import Derived.Test.YtjobmgleekphjaaE25
set_option linter.unusedVariables false
set_option linter.unusedSimpArgs false
namespace Go.Eng.T3
open Go.Proofs

/-! ### Lists of items -/
theorem itemL_len (x : ItemV) : (itemL x).length = 13 := rfl
theorem flat_len : ∀ (L : List ItemV), (L.flatMap itemL).length = L.length * 13
  | [] => rfl
  | x :: L => by rw [List.flatMap_cons, List.length_append, flat_len L, itemL_len, List.length_cons]; omega
theorem flat_at : ∀ (L : List ItemV) (i : Nat) (x : ItemV), L[i]? = some x → ∀ (f : Nat) (v : Value), (itemL x)[f]? = some v → (L.flatMap itemL)[i * 13 + f]? = some v
  | [], i, x, h, _, _, _ => by simp at h
  | y :: L, 0, x, h, f, v, hf => by
    simp at h
    subst h
    have hlt : f < 13 := by
      rcases Nat.lt_or_ge f 13 with h' | h'
      · exact h'
      · rw [List.getElem?_eq_none (by rw [itemL_len]; exact h')] at hf; cases hf
    rw [List.flatMap_cons, List.getElem?_append_left (by rw [itemL_len]; omega)]
    rw [show 0 * 13 + f = f by omega]; exact hf
  | y :: L, i + 1, x, h, f, v, hf => by
    rw [List.flatMap_cons, List.getElem?_append_right (by rw [itemL_len]; omega), itemL_len, show (i + 1) * 13 + f - 13 = i * 13 + f by omega]
    exact flat_at L i x (by simpa using h) f v hf
theorem flat_inv : ∀ (L : List ItemV) (k : Nat) (v : Value), (L.flatMap itemL)[k]? = some v → ∃ i x f, L[i]? = some x ∧ (itemL x)[f]? = some v ∧ k = i * 13 + f
  | [], k, v, h => by simp at h
  | y :: L, k, v, h => by
    rw [List.flatMap_cons] at h
    rcases Nat.lt_or_ge k 13 with h' | h'
    · rw [List.getElem?_append_left (by rw [itemL_len]; exact h')] at h
      exact ⟨0, y, k, rfl, h, by omega⟩
    · rw [List.getElem?_append_right (by rw [itemL_len]; exact h'), itemL_len] at h
      obtain ⟨i, x, f, h1, h2, h3⟩ := flat_inv L (k - 13) v h
      exact ⟨i + 1, x, f, by simpa using h1, h2, by omega⟩

theorem sz71 : tSize Try.prog 71 = .ok 13 := by kernel_rfl
theorem by71 : tBytes Try.prog 71 = .ok 112 := by kernel_rfl
def zeroI : ItemV := ⟨0, .empty, 0, 0, 0, 0, 0, 0, 0, 0, false, 0, 0⟩
def markI : ItemV := ⟨-77, .empty, 0, 0, 0, 0, 0, 0, 0, 0, false, 0, 0⟩
theorem z71 : tZero Try.prog 71 = .ok (itemL zeroI) := by kernel_rfl
theorem zeros42 : tZeros Try.prog (some 42) = .ok false := by kernel_rfl

theorem plain_item (x : ItemV) : (itemL x).all plainCell = true := rfl
theorem plain_flat : ∀ (L : List ItemV), (L.flatMap itemL).all plainCell = true
  | [] => rfl
  | x :: L => by rw [List.flatMap_cons, List.all_append, plain_item, plain_flat L]; rfl

/-- is a slice that is handed in one of a row, or nil? -/
def Handed (p : Option Addr) (c : Nat) (L : List ItemV) : Prop := (p = none ∧ c = 0 ∧ L = []) ∨ ∃ id off, p = some ⟨id, off, none⟩

theorem appended_items {H : AH} {p : Option Addr} {c : Nat} {L : List ItemV} (hL : Items H p L) (hp : Handed p c L) : appended Try.prog H 71 false (.slice p L.length c) = .ok (L.flatMap itemL, L.length) := by
  rcases hp with ⟨rfl, rfl, rfl⟩ | ⟨id, off, rfl⟩
  · simp only [appended, sz71, bind, Except.bind]; rfl
  · have hread : readRow H id off (L.length * 13) = .ok (L.flatMap itemL) := by
      rcases hL with rfl | ⟨id', off', r, h1, h2, h3⟩
      · rfl
      · cases h1
        unfold readRow
        by_cases h0 : L.length * 13 = 0
        · rw [if_pos h0]
          have : L = [] := by cases L with
            | nil => rfl
            | cons x L => simp at h0
          subst this; rfl
        · rw [if_neg h0]
          have hrow : H.row id = .ok r := by unfold AH.row; rw [h2.get]
          simp only [hrow, bind, Except.bind]
          rw [← flat_len L]
          refine takeK_of (L.flatMap itemL) r.cells off (fun f v hf => ?_)
          obtain ⟨i, x, g, k1, k2, k3⟩ := flat_inv L f v hf
          have := h3 i x k1 g v k2
          rw [← this]; congr 1; omega
    simp only [appended, sz71, bind, Except.bind, Bool.false_eq_true, if_false, hread]

theorem Items.ext {H H1 : AH} {k : Nat} {p : Option Addr} {L : List ItemV} (h : Items H p L) (E : Ext H H1 k) : Items H1 p L := by
  rcases h with h | ⟨id, off, r, h1, h2, h3⟩
  · exact .inl h
  · exact .inr ⟨id, off, r, h1, E.has h2, h3⟩

theorem readied_ext {H0 H : AH} {k id lo n : Nat} {r : Row} (E : Ext H0 H k) (hid : H0.next ≤ id) (hb : id < 281474976710655) (hf : H0.next ≤ r.fam) (hf2 : r.fam < 2199023255552) : Ext H0 (H.readied id r lo n) k ∧ (H.readied id r lo n).next = H.next := by
  unfold AH.readied
  cases r.solo with
  | true => exact ⟨E.set hid hb _, rfl⟩
  | false => exact ⟨E.blur hf hf2, rfl⟩

/-- items appended to a list of one's own -/
theorem append_own {H0 H : AH} {k id : Nat} {L M : List ItemV} {p : Option Addr} {c : Nat} {b : Bool} (E : Ext H0 H k) (hid : H0.next ≤ id) (hr : H.get id = some (.row (listRow 71 H0.next 13 ((L.flatMap itemL).map some) 0 b)))
    (hM : Items H p M) (hp : Handed p c M) (hn : H.next < 1099511627776) (hlt : id < H.next) (hk : H0.next < H.next) (hbig : L.length + M.length ≤ 2147483648) :
    ∃ id2 H2 b2, aAppend Try.prog H 42 (some 42) (.slice (some ⟨id, 0, none⟩) L.length L.length) (.slice p M.length c) = .ok (.slice (some ⟨id2, 0, none⟩) (L ++ M).length (L ++ M).length, H2) ∧
      Ext H0 H2 (k + 1) ∧ H0.next ≤ id2 ∧ id2 < H2.next ∧ H2.get id2 = some (.row (listRow 71 H0.next 13 (((L ++ M).flatMap itemL).map some) 0 b2)) := by
  have happ := appended_items hM hp
  by_cases hm : M = []
  · subst hm
    refine ⟨id, H, b, ?_, E.more (by omega), hid, hlt, by rw [List.append_nil]; exact hr⟩
    have happ' : appended Try.prog H 71 false (.slice p 0 c) = .ok ([], 0) := happ
    show aAppend Try.prog H 42 (some 42) (.slice (some ⟨id, 0, none⟩) L.length L.length) (.slice p 0 c) = _
    rw [List.append_nil]
    unfold aAppend
    simp only [Try.underlying42, zeros42, sz71, by71, happ', bind, Except.bind]
    rw [if_neg (by decide), if_pos trivial, if_pos (Nat.le_refl _)]
  · have hm0 : M.length ≠ 0 := fun h => hm (List.length_eq_zero_iff.1 h)
    have hlen : L.length * 13 ≤ (listRow 71 H0.next 13 ((L.flatMap itemL).map some) 0 b).cells.length := by
      show _ ≤ ((L.flatMap itemL).map some).length
      rw [List.length_map, flat_len]; exact Nat.le_refl _
    have h := aAppend_own (P := Try.prog) (t := 42) (u := 42) (zs := itemL zeroI) (n := L.length) Try.underlying42 zeros42 sz71 by71 z71 rfl rfl hr rfl rfl hlen happ hm0 (by omega) (plain_flat M) hn (show H0.next < _ by omega)
    obtain ⟨E2, e2⟩ := readied_ext (lo := (listRow 71 H0.next 13 ((L.flatMap itemL).map some) 0 b).disp + 0 + L.length * 13) (n := (M.flatMap itemL).length) (r := listRow 71 H0.next 13 ((L.flatMap itemL).map some) 0 b) E hid (by omega) (Nat.le_refl _) (show H0.next < _ by omega)
    refine ⟨_, _, false, by rw [List.length_append]; exact h, E2.pushed (by rw [e2]; exact hn) _, by omega, by rw [AH.push_next, e2]; omega, ?_⟩
    have := get_push_new (H := H.readied id (listRow 71 H0.next 13 ((L.flatMap itemL).map some) 0 b) ((listRow 71 H0.next 13 ((L.flatMap itemL).map some) 0 b).disp + 0 + L.length * 13) (M.flatMap itemL).length) (r := listRow 71 H0.next 13 (List.take (L.length * 13) (listRow 71 H0.next 13 ((L.flatMap itemL).map some) 0 b).cells ++ (M.flatMap itemL).map some) 0 false) (by rw [e2]; exact hn)
    rw [e2] at this
    have hc : List.take (L.length * 13) (listRow 71 H0.next 13 ((L.flatMap itemL).map some) 0 b).cells ++ (M.flatMap itemL).map some = ((L ++ M).flatMap itemL).map some := by
      show List.take (L.length * 13) ((L.flatMap itemL).map some) ++ _ = _
      rw [List.take_of_length_le (by rw [List.length_map, flat_len]; exact Nat.le_refl _), List.flatMap_append, List.map_append]
    rw [hc] at this
    rw [← hc]
    rw [← hc] at this
    exact this

theorem items_list {H : AH} {id fam : Nat} {L : List ItemV} {b : Bool} (hlt : id < H.next) (hf : fam < H.next) (hr : H.get id = some (.row (listRow 71 fam 13 ((L.flatMap itemL).map some) 0 b))) : Items H (some ⟨id, 0, none⟩) L :=
  .inr ⟨id, 0, _, rfl, ⟨hlt, hr, .inl hf⟩, fun i x hx f v hf => by
    show ((L.flatMap itemL).map some)[0 + i * 13 + f]? = _
    rw [show 0 + i * 13 + f = i * 13 + f by omega, List.getElem?_map, flat_at L i x hx f v hf]; rfl⟩

theorem build_mark (rec : Rec) (a : AAct) (H : AH) (d : Option Tmp) (ty : TypeId) (ps : String) (af : Array Edge) (gu : Option (Nat × Bool)) : aOp Try.prog rec a H ⟨d, .build 71 #[(0, .const (.int .i64 (-77)))], ty, ps, af, gu⟩ = .ok (.agg (itemL markI).toArray, H) := by
  kernel_rfl

set_option maxRecDepth 100000 in
set_option maxHeartbeats 4000000 in
theorem w29 (H : AH) (L : List ItemV) (p : Option Addr) (c : Nat) (hL : Items H p L) (hp : Handed p c L) (hl : L.length ≤ 2147483647) (hN : H.next + 4 ≤ 1099511627776) :
    WF1 Try.prog orc 29 [.slice p L.length c] H (fun v H1 => ∃ id r, v = .slice (some ⟨id, 0, none⟩) (L.length + 1) (L.length + 1) ∧ Has H1 id (.row r) ∧ r.esz = 13 ∧ Items H1 (some ⟨id, 0, none⟩) (L ++ [markI]) ∧ Ext H H1 4) := by
  refine WF1.call (bodyOf_mk Try.func29 rfl (leN rfl) (leN rfl) (by kernel_rfl)) rfl ?_
  refine WC.region ?_
  refine WO.assign rfl rfl rfl ?_
  refine WO.nil ?_
  refine WC.region ?_
  refine WO.buildSlice (sz := 13) (zs := itemL zeroI) (pv := []) (cells := #[]) rfl Try.underlying42 rfl sz71 rfl z71 rfl (by omega) rfl ?_
  refine WO.assign rfl rfl rfl ?_
  refine WO.nil ?_
  refine WC.region ?_
  refine WO.move rfl rfl rfl ?_
  refine WO.move rfl rfl rfl ?_
  have E1 : Ext H (H.push (listRow 71 H.next 13 ((#[] : Array Value).toList.map some) 0 true)) 1 := Ext.push (by omega)
  have g1 : (H.push (listRow 71 H.next 13 ((#[] : Array Value).toList.map some) 0 true)).get H.next = some (.row (listRow 71 H.next 13 ((([] : List ItemV).flatMap itemL).map some) 0 true)) := get_push_new (by omega)
  have n1 : (H.push (listRow 71 H.next 13 ((#[] : Array Value).toList.map some) 0 true)).next = H.next + 1 := rfl
  generalize H.push (listRow 71 H.next 13 ((#[] : Array Value).toList.map some) 0 true) = H1 at *
  obtain ⟨id2, H2, b2, a1, E2, k1, k2, g2⟩ := append_own (L := []) (M := L) E1 (Nat.le_refl _) g1 (hL.ext E1) hp (by omega) (by omega) (by omega) (by simp; omega)
  have hn2 := E2.2.1
  refine WO.append rfl rfl rfl a1 rfl ?_
  refine WO.assign rfl rfl rfl ?_
  refine WO.nil ?_
  refine WC.region ?_
  refine WO.move rfl rfl rfl ?_
  refine WO.same rfl rfl (fun rec => build_mark rec _ _ _ _ _ _ _) rfl ?_
  refine WO.buildSlice (sz := 13) (zs := itemL zeroI) (pv := [(0, .agg (itemL markI).toArray)]) (cells := (itemL markI).toArray) rfl Try.underlying42 (by kernel_rfl) sz71 rfl z71 (by kernel_rfl) (by omega) rfl ?_
  have E3 : Ext H (H2.push (listRow 71 H2.next 13 ((itemL markI).toArray.toList.map some) 0 true)) 3 := E2.pushed (by omega) _
  have hX : Items (H2.push (listRow 71 H2.next 13 ((itemL markI).toArray.toList.map some) 0 true)) (some ⟨H2.next, 0, none⟩) [markI] := items_list (fam := H2.next) (by rw [AH.push_next]; omega) (by rw [AH.push_next]; omega) (get_push_new (by omega))
  have g3 := (Ext.push (r := listRow 71 H2.next 13 ((itemL markI).toArray.toList.map some) 0 true) (show H2.next < 1099511627776 by omega)).has ⟨k2, g2, .inl (show H.next < H2.next by have := E1.1; omega)⟩
  have n3 : (H2.push (listRow 71 H2.next 13 ((itemL markI).toArray.toList.map some) 0 true)).next = H2.next + 1 := rfl
  generalize H2.push (listRow 71 H2.next 13 ((itemL markI).toArray.toList.map some) 0 true) = H3 at *
  obtain ⟨id4, H4, b4, a3, E4, k3, k4, g4⟩ := append_own (L := [] ++ L) (M := [markI]) (c := 1) E3 k1 g3.get hX (.inr ⟨_, _, rfl⟩) (by omega) (by omega) (by omega) (by simp; omega)
  refine WO.append rfl rfl rfl a3 rfl ?_
  refine WO.assign rfl rfl rfl ?_
  refine WO.nil ?_
  refine WC.ret' ?_
  refine ⟨.inr rfl, rfl, _, res1 rfl, ?_⟩
  have e : ([] ++ L ++ [markI]).length = L.length + 1 := by simp
  refine ⟨_, _, by rw [e], ⟨k4, g4, .inl (show H.next < H4.next by have := E4.1; have := E3.1; omega)⟩, rfl, items_list (fam := H.next) k4 (by omega) (by simpa using g4), E4⟩

end Go.Eng.T3
