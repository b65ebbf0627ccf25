/-
  Layer 14: LineCosts answers true, whatever is handed in.
-/
import Derived.Test.YtjobmgleekphjaaT8
import Derived.Test.YtjobmgleekphjaaT9s
set_option linter.unusedVariables false
set_option linter.unusedSimpArgs false
namespace Go.Eng.T3
open Go.Proofs

theorem told : Told Try.prog orc := by
  intro f v hf
  have h : f = 28 ∧ v = .bool true := by
    unfold orc at hf
    cases hb : Nat.beq f 28 with
    | false => rw [hb] at hf; cases hf
    | true =>
      rw [hb] at hf
      cases hf
      exact ⟨Nat.eq_of_beq_eq_true hb, rfl⟩
  obtain ⟨rfl, rfl⟩ := h
  refine ⟨rfl, 5000, ?_⟩
  have h := shown28
  rw [fRun_eq] at h
  unfold resB at h
  split at h
  · rename_i b H' e
    cases h
    exact ⟨H', e⟩
  · cases h

theorem gnd_line (y : LineV) : gnd gd (lineV y) = true := rfl
theorem gnd_item (y : ItemV) : (itemL y).all (gnd gd) = true := rfl

def inRow (L : List ItemV) (b o : Nat) : Row := { cells := (L.flatMap itemL).map some, ty := 71, fam := 2199023255552 + b, disp := o, esz := 13, ro := true, solo := false }

theorem lent_in {W : World} {ρ : Ren} {L : List ItemV} {b o : Nat} (hb : b < W.heap.size) (h : ∀ (i : Nat) (y : ItemV), L[i]? = some y → ∀ j, j < 13 → W.cell? (((⟨b, o, none⟩ : Addr).add (i * 13)).add j) = (itemL y)[j]?) :
    Lent ρ W (inRow L b o) ⟨b, o, 13, L.length * 13⟩ := by
  refine ⟨rfl, rfl, rfl, rfl, hb, rfl, ?_, fun j hj => ?_⟩
  · show ((L.flatMap itemL).map some).length ≤ L.length * 13
    rw [List.length_map, flat_len]; exact Nat.le_refl _
  · have hj' : j < L.length * 13 := hj
    have hi : j / 13 < L.length := by omega
    have hf : j % 13 < 13 := Nat.mod_lt _ (by decide)
    have hy := List.getElem?_eq_getElem hi
    have hc := h (j / 13) _ hy (j % 13) hf
    rw [addr_add, addr_add, List.getElem?_eq_getElem (show j % 13 < (itemL L[j / 13]).length from hf)] at hc
    have e : o + j / 13 * 13 + j % 13 = o + j := by omega
    rw [e] at hc
    refine ⟨_, hc, fun v hv => ?_, fun h => by cases h⟩
    have hv' : ((L.flatMap itemL).map some)[j]? = some (some v) := hv
    have hat := flat_at L (j / 13) _ hy (j % 13) _ (List.getElem?_eq_getElem (show j % 13 < (itemL L[j / 13]).length from hf))
    rw [show j / 13 * 13 + j % 13 = j by omega] at hat
    rw [List.getElem?_map, hat] at hv'
    simp only [Option.map_some, Option.some.injEq] at hv'
    subst hv'
    exact gnd_refl _ (List.all_eq_true.1 (gnd_item _) _ (List.getElem_mem _))

theorem first_next (l : List (Row × Pl)) : (firstOf l).next = l.length := by unfold firstOf; rw [heapOf_next l 0 _ rfl]; omega

set_option maxRecDepth 100000 in
theorem run10 {W : World} {args : Array Value} {l : List (Row × Pl)} (hlen : l.length ≤ 1) (hl : ∀ x ∈ l, Lent (rhoOf l) W x.1 x.2) {L : List ItemV} {p : Option Addr} {c : Nat} {ah ln : LineV}
    (hI : Items (firstOf l) p L) (hp : Handed p c L) (hn : (L.length : Int) < 9223372036854775808) (ha : LR (rhoOf l) [.slice p L.length c, lineV ah, lineV ln] args.toList) :
    Calls Try.prog 10 args W (fun e w' => e = .returned (.bool true) ∧ Kept W w') := by
  have hnext : (firstOf l).next = l.length := by unfold firstOf; rw [heapOf_next l 0 _ rfl]; omega
  obtain ⟨n, v, H', h1, h2⟩ := w10 (firstOf l) L p c hI hp hn (by rw [hnext]; omega) ah ln
  subst h2
  exact law_first_o told (by omega) hl ha h1

set_option maxRecDepth 100000 in
theorem calls10 {H : Type} {enc : TypeId × Value → H} {W : World} {base : Nat} {args : Array Value} {ds : List (DataW H)} {ps : List MemPlace} (hA : DataW.TrodAll enc Try.prog W 0 (fun _ => true) true [42, 57, 57] args.toList ds ps)
    (hval : ∀ (j : Nat) t v, ([42, 57, 57] : List TypeId)[j]? = some t → args.toList[j]? = some v → Value.okWide Try.prog W .any base t v) : Calls Try.prog 10 args W (fun e w' => e = .returned (.bool true) ∧ Kept W w') := by
  rcases hargs : args.toList with _ | ⟨v1, _ | ⟨v2, _ | ⟨v3, _ | ⟨v4, l⟩⟩⟩⟩
  · rw [hargs] at hA; exact hA.elim
  · rw [hargs] at hA; rcases ds with _ | ⟨d1, ds⟩ <;> simp [DataW.TrodAll] at hA
  · rw [hargs] at hA; rcases ds with _ | ⟨d1, _ | ⟨d2, ds⟩⟩ <;> simp [DataW.TrodAll] at hA
  · rw [hargs] at hA hval
    rcases ds with _ | ⟨d1, _ | ⟨d2, _ | ⟨d3, ds⟩⟩⟩ <;> first | (simp [DataW.TrodAll] at hA; done) | skip
    obtain ⟨p1, q1, ⟨n1, t1⟩, ⟨p2, q2, ⟨n2, t2⟩, ⟨p3, q3, ⟨n3, t3⟩, _, _⟩, _⟩, _⟩ := hA
    have o2 := hval 1 57 v2 rfl rfl
    have o3 := hval 2 57 v3 rfl rfl
    have o1 := hval 0 42 v1 rfl rfl
    unfold Value.okWide at o2 o3 o1
    rw [Try.underlying57] at o2 o3
    rw [Try.underlying42] at o1
    simp only at o1 o2 o3
    obtain ⟨c2, rfl, _⟩ := o2
    obtain ⟨c3, rfl, _⟩ := o3
    obtain ⟨ah, ha⟩ := line_of (cs := c2.toList) t2
    obtain ⟨ln, hl⟩ := line_of (cs := c3.toList) t3
    rw [show c2.toList.toArray = c2 by simp] at ha
    rw [show c3.toList.toArray = c3 by simp] at hl
    rw [ha, hl] at hargs
    unfold Cell.okWide at o1
    rw [Try.underlying42] at o1
    have o1' : Cell.ok Try.prog W .any base 42 v1 := by cases v1 <;> exact o1
    clear o1
    unfold Cell.ok at o1'
    rw [Try.underlying42] at o1'
    cases v1 <;> simp only at o1' <;> first | (exact o1'.elim) | skip
    rename_i ad len cap
    cases ad with
    | none =>
      have hz : len = 0 ∧ cap = 0 := by
        rcases len with _ | len <;> rcases cap with _ | cap <;> first | exact ⟨rfl, rfl⟩ | exact o1'.elim
      obtain ⟨rfl, rfl⟩ := hz
      refine run10 (l := []) (by simp) (fun x hx => by cases hx) (L := []) (p := none) (c := 0) (ah := ah) (ln := ln) (.inl rfl) (.inl ⟨rfl, rfl, rfl⟩) (by simp) ?_
      rw [hargs]
      exact (((LR.nil _).cons (gnd_refl _ (gnd_line ln))).cons (gnd_refl _ (gnd_line ah))).cons .sliceNil
    | some a =>
      have hs : a.spot = none ∧ a.block < W.heap.size := by
        obtain ⟨_, _, _, h4, row, cells, h5, _⟩ := o1'
        refine ⟨h4, ?_⟩
        rcases Nat.lt_or_ge a.block W.heap.size with h' | h'
        · exact h'
        · exfalso
          unfold World.shape? at h5
          simp [Array.getElem?_eq_none h'] at h5
      obtain ⟨b, o, spt⟩ := a
      obtain ⟨h4, hb⟩ := hs
      simp only at h4
      subst h4
      obtain ⟨h6, h7, L, h8, h9⟩ := slice_of t1
      subst h8
      have hlent := lent_in (ρ := rhoOf [(inRow L b o, ⟨b, o, 13, L.length * 13⟩)]) hb h9
      have hmax : maxLen = 9223372036854775807 := by decide
      refine run10 (l := [(inRow L b o, ⟨b, o, 13, L.length * 13⟩)]) (by simp) (fun x hx => by simp at hx; subst hx; exact hlent) (L := L) (p := some ⟨0, 0, none⟩) (c := cap) (ah := ah) (ln := ln) ?_ (.inr ⟨0, 0, rfl⟩) (by omega) ?_
      · refine .inr ⟨0, 0, inRow L b o, rfl, ⟨by rw [first_next]; exact Nat.zero_lt_one, by rw [firstOf_get (by simp)]; rfl, .inr (by show _ ≤ 2199023255552 + b; omega)⟩, fun i x hx f v hf => ?_⟩
        show ((L.flatMap itemL).map some)[0 + i * 13 + f]? = _
        rw [show 0 + i * 13 + f = i * 13 + f by omega, List.getElem?_map, flat_at L i x hx f v hf]; rfl
      · rw [hargs]
        exact (((LR.nil _).cons (gnd_refl _ (gnd_line ln))).cons (gnd_refl _ (gnd_line ah))).cons (.slice (pl := ⟨b, o, 13, L.length * 13⟩) rfl (.inl rfl))
  · rw [hargs] at hA
    rcases ds with _ | ⟨d1, _ | ⟨d2, _ | ⟨d3, _ | ⟨d4, ds⟩⟩⟩⟩ <;> simp [DataW.TrodAll] at hA

end Go.Eng.T3
