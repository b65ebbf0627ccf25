/-
  Laws with arguments: the caller's rows as the abstract machine's first memory; what the caller has reads as it did.
-/
import Derived.Test.YtjobmgleekphjaaE17
import Derived.ReadAgain
set_option linter.unusedSimpArgs false
namespace Go.Eng
noncomputable section
variable {P : Program}

/-! ### The first memory -/
def heapOf : Nat → List (Row × Pl) → AH → AH
  | _, [], H => H
  | k, (r, _) :: l, H => heapOf (k + 1) l ⟨T.put (Nat.succ k) H.objs k (.row r), k + 1⟩

def rhoOf (l : List (Row × Pl)) : Ren := fun i => (l[i]?).map (·.2)

theorem heapOf_get : ∀ (l : List (Row × Pl)) (k : Nat) (H : AH), ∀ j, (heapOf k l H).get j = if k ≤ j ∧ j < k + l.length then (l[j - k]?).map (fun x => AO.row x.1) else H.get j
  | [], k, H, j => by rw [if_neg (by simp)]; rfl
  | (r, pl) :: l, k, H, j => by
    rw [heapOf, heapOf_get l (k + 1) _ j]
    have hp : (⟨T.put (Nat.succ k) H.objs k (.row r), k + 1⟩ : AH).get j = if j = k then some (.row r) else H.get j := T.get_put' _ _ _ _
    simp only [List.length_cons]
    by_cases h1 : k + 1 ≤ j ∧ j < k + 1 + l.length
    · rw [if_pos h1, if_pos (by omega)]
      obtain ⟨d, rfl⟩ : ∃ d, j = k + 1 + d := ⟨j - (k + 1), by omega⟩
      rw [show k + 1 + d - (k + 1) = d by omega, show k + 1 + d - k = d + 1 by omega]
      simp
    · rw [if_neg h1, hp]
      by_cases e : j = k
      · subst e
        rw [if_pos rfl, if_pos (by omega)]
        simp
      · rw [if_neg e, if_neg (by omega)]

theorem heapOf_next : ∀ (l : List (Row × Pl)) (k : Nat) (H : AH), H.next = k → (heapOf k l H).next = k + l.length
  | [], k, H, h => h
  | (r, pl) :: l, k, H, h => by
    rw [heapOf, heapOf_next l (k + 1) _ rfl]
    simp only [List.length_cons]
    omega

/-- what a caller's row is for the abstract machine -/
structure Lent (ρ : Ren) (W : World) (r : Row) (pl : Pl) : Prop where
  ro : r.ro = true
  fam : r.fam = 0
  disp : r.disp = pl.base
  solo : r.solo = false
  lt : pl.blk < W.heap.size
  or : OR ρ W pl (.row r)

def firstOf (l : List (Row × Pl)) : AH := heapOf 0 l AH.empty

theorem firstOf_get {l : List (Row × Pl)} (j : Nat) : (firstOf l).get j = (l[j]?).map (fun x => AO.row x.1) := by
  unfold firstOf
  rw [heapOf_get l 0 _ j]
  by_cases h1 : j < l.length
  · rw [if_pos (by omega)]; simp
  · rw [if_neg (by omega), List.getElem?_eq_none (by omega)]; rfl

theorem rel_first {W : World} {l : List (Row × Pl)} (h : ∀ x ∈ l, Lent (rhoOf l) W x.1 x.2) : Rel (rhoOf l) (firstOf l) W := by
  have hnext : (firstOf l).next = l.length := by unfold firstOf; rw [heapOf_next l 0 _ rfl]; omega
  have get : ∀ j o, (firstOf l).get j = some o → ∃ x ∈ l, l[j]? = some x ∧ o = .row x.1 ∧ rhoOf l j = some x.2 := fun j o hj => by
    rw [firstOf_get] at hj
    cases hx : l[j]? with
    | none => rw [hx] at hj; cases hj
    | some x =>
      rw [hx] at hj
      cases hj
      exact ⟨x, List.mem_of_getElem? hx, rfl, rfl, by unfold rhoOf; rw [hx]; rfl⟩
  refine ⟨fun id pl hp => ?_, trivial, fun id o ho => ?_, fun i j oi oj pi pj hi hj _ hpi hpj hb => ?_⟩
  · rw [hnext]
    unfold rhoOf at hp
    rcases Nat.lt_or_ge id l.length with h' | h'
    · exact h'
    · rw [List.getElem?_eq_none h'] at hp; cases hp
  · obtain ⟨x, hx, _, rfl, hr⟩ := get id o ho
    exact ⟨x.2, hr, (h x hx).lt, (h x hx).or⟩
  · obtain ⟨x, hx, _, rfl, hr⟩ := get i oi hi
    obtain ⟨y, hy, _, rfl, hs⟩ := get j oj hj
    rw [hr] at hpi; cases hpi
    rw [hs] at hpj; cases hpj
    have a := h x hx
    have b := h y hy
    exact ⟨x.1, y.1, rfl, rfl, by rw [a.fam, b.fam], by rw [a.disp, b.disp]; omega, a.solo, b.solo⟩

/-- **What the abstract machine tells of a law's call holds; nothing that was there has turned.** -/
theorem law_first {W : World} {l : List (Row × Pl)} (h : ∀ x ∈ l, Lent (rhoOf l) W x.1 x.2) {vs : List Value} {args : Array Value} (ha : LR (rhoOf l) vs args.toList) {n : Nat} {f : FuncId} {b : Bool} {H' : AH}
    (hrun : aRun P n (.call f vs) (firstOf l) = .ok (.val (.bool b), H')) : Calls P f args W (fun e w' => e = .returned (.bool b) ∧ Kept W w') := by
  obtain ⟨_, hc⟩ := (aRun_ok (P := P) n).call f vs (firstOf l) _ H' hrun
  have := hc (rhoOf l) W args.toList 0 (rel_first h) ha
  rw [show args.toList.toArray = args by simp] at this
  have h3 : Calls P f args W (CallPost (rhoOf l) (firstOf l) W (.bool b) H') := callsIn_wide.1 this
  intro cs
  obtain ⟨e, w', fr, r, s, x⟩ := h3 cs
  obtain ⟨ρ', v', rfl, st, hv⟩ := r
  rw [hv.bool_inv] at s x
  refine ⟨_, w', fr, ⟨rfl, fun r hr => (st.keep r hr ?_).1, st.size, st.os, st.output⟩, s, x⟩
  rintro ⟨id, o, pl, h1, h2, _⟩
  rw [firstOf_get] at h1
  cases hx : l[id]? with
  | none => rw [hx] at h1; cases h1
  | some y =>
    rw [hx] at h1
    cases h1
    simp [AO.rw, (h y (List.mem_of_getElem? hx)).ro] at h2

/-! ### What the caller has reads as it did -/
theorem Kept.same {W W' : World} (h : Kept W W') {p : MemPlace} (hp : p.block < W.heap.size) : W.sameAt W' p := by
  cases p with
  | cell b off => exact cell_congr (h.1 b hp)
  | map b => exact h.1 b hp

theorem trodAll_kept {H : Type} {enc : TypeId × Value → H} {W W' : World} (hk : Kept W W') {b : Nat} {sp : Nat → Bool} {hd : Bool} : ∀ {ts : List TypeId} {vs : List Value} {ds : List (DataW H)} {ps : List MemPlace},
    DataW.TrodAll enc P W b sp hd ts vs ds ps → (∀ p ∈ ps, p.block < W.heap.size) → DataW.TrodAll enc P W' b sp hd ts vs ds ps
  | [], [], [], _, h, _ => h
  | _ :: _, _ :: _, _ :: _, _, ⟨p, q, ⟨n, h1⟩, h2, e⟩, hs =>
    ⟨p, q, ⟨n, DataW.trod_carry n _ _ _ h1 (fun x hx => hk.same (hs x (by rw [e]; exact List.mem_append_left _ hx)))⟩, trodAll_kept hk h2 (fun x hx => hs x (by rw [e]; exact List.mem_append_right _ hx)), e⟩

end
end Go.Eng
