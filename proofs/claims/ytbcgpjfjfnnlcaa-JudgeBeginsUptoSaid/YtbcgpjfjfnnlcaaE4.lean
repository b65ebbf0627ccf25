/-
  Operations of the abstract machine go along with those of the model: copies, memory, numbers.
-/
import Derived.Test.YtbcgpjfjfnnlcaaE3
namespace Go.Eng
noncomputable section
variable {P : Program}

theorem bok {α β : Type} {x : R α} {f : α → R β} {y : β} (h : (x >>= f) = .ok y) : ∃ a, x = .ok a ∧ f a = .ok y := by
  cases x with
  | error e => cases h
  | ok a => exact ⟨a, rfl, h⟩

theorem gnd_refl {ρ : Ren} : ∀ (n : Nat) {v : Value}, gnd n v = true → VR ρ v v := by
  intro n
  induction n with
  | zero =>
    intro v h
    cases v with
    | bool b => exact .bool b
    | int k n => exact .int k n
    | float k b => exact .float k b
    | complex k a b => exact .complex k a b
    | string s => exact .string s
    | pointer a => cases a with
      | none => exact .ptrNil
      | some a => simp [gnd] at h
    | slice a n c => cases a with
      | none => cases n <;> cases c <;> first | exact .sliceNil | simp [gnd] at h
      | some a => simp [gnd] at h
    | map r => cases r with
      | none => exact .mapNil
      | some r => simp [gnd] at h
    | chan r => simp [gnd] at h
    | func fn a b => cases fn with
      | func f => obtain ⟨rfl, rfl⟩ := gnd_func h; exact .func rfl (by intro i v v' h; simp at h) rfl (by intro i v v' h; simp at h)
      | _ => simp [gnd] at h
    | nilFunc => exact .nilFunc
    | iface t v => simp [gnd] at h
    | nilIface => exact .nilIface
    | agg cs => simp [gnd] at h
    | tuple cs => simp [gnd] at h
  | succ n ih =>
    intro v h
    have key : ∀ (cs : Array Value), cs.toList.all (gnd n) = true → ∀ (i : Nat) (v v' : Value), cs.toList[i]? = some v → cs.toList[i]? = some v' → VR ρ v v' := fun cs hall i v v' h1 h2 => by
      rw [h1] at h2; cases h2
      exact ih (List.all_eq_true.1 hall v (List.mem_of_getElem? h1))
    cases v with
    | bool b => exact .bool b
    | int k n => exact .int k n
    | float k b => exact .float k b
    | complex k a b => exact .complex k a b
    | string s => exact .string s
    | pointer a => cases a with
      | none => exact .ptrNil
      | some a => simp [gnd] at h
    | slice a n c => cases a with
      | none => cases n <;> cases c <;> first | exact .sliceNil | simp [gnd] at h
      | some a => simp [gnd] at h
    | map r => cases r with
      | none => exact .mapNil
      | some r => simp [gnd] at h
    | chan r => simp [gnd] at h
    | func fn a b => cases fn with
      | func f => obtain ⟨rfl, rfl⟩ := gnd_func h; exact .func rfl (by intro i v v' h; simp at h) rfl (by intro i v v' h; simp at h)
      | _ => simp [gnd] at h
    | nilFunc => exact .nilFunc
    | iface t v => simp only [gnd] at h; exact .iface (ih h)
    | nilIface => exact .nilIface
    | agg cs => simp only [gnd] at h; exact .agg rfl (key cs h)
    | tuple cs => simp only [gnd] at h; exact .tuple rfl (key cs h)

theorem gnd_list {ρ : Ren} {n : Nat} {l : List Value} (h : l.all (gnd n) = true) : LR ρ l l :=
  ⟨rfl, fun i v v' h1 h2 => by rw [h1] at h2; cases h2; exact gnd_refl n (List.all_eq_true.1 h v (List.mem_of_getElem? h1))⟩

/-! ### What is known of types -/
theorem run_underlying' {t : TypeId} {d : TypeDesc} (h : P.underlying t = some d) (w : World) : (underlying t).run P w = .ok d w := by
  simp [underlying, h]

theorem run_typeInfo' {t : TypeId} {i : TypeInfo} (h : P.info? t = some i) (w : World) : (typeInfo t).run P w = .ok i w := by
  simp [typeInfo, h]

theorem run_sizeOf' {t n : Nat} (h : tSize P t = .ok n) (w : World) : (sizeOf t).run P w = .ok n w := by
  unfold tSize at h
  split at h
  · rename_i i hi; cases h; simp [sizeOf, run_typeInfo' hi, Result.andThen]
  · cases h

theorem run_zeroValue' {t : Nat} {zs : List Value} (h : tZero P t = .ok zs) (w : World) : ∃ z, (zeroValue t).run P w = .ok z w ∧ z.cells.toList = zs ∧ zs.all (gnd gd) = true ∧ (∃ i, P.info? t = some i ∧ zs.length = i.size) := by
  unfold tZero at h
  split at h
  · rename_i i hi
    split at h
    · rename_i v hz
      split at h
      · rename_i hg
        cases h
        simp only [Bool.and_eq_true, beq_iff_eq] at hg
        exact ⟨v, by simp [zeroValue, run_typeInfo' hi, Result.andThen, hz], rfl, hg.1, i, hi, hg.2⟩
      · cases h
    · cases h
  · cases h

theorem run_isAgg' {t : Nat} {b : Bool} (h : tAgg P t = .ok b) (w : World) : (isAgg t).run P w = .ok b w := by
  unfold tAgg at h
  split at h
  · rename_i hu; cases h; simp [isAgg, run_underlying' hu, Result.andThen]
  · rename_i hu; cases h; simp [isAgg, run_underlying' hu, Result.andThen]
  · rename_i d n1 n2 hu
    cases h
    simp only [isAgg, Sem.run_bind, run_underlying' hu, Result.andThen]
    cases d <;> first | rfl | exact absurd hu (by simpa using n1 _) | exact absurd hu (by simpa using n2 _ _)
  · cases h

/-! ### Reads -/
theorem takeK_ok : ∀ {l : List (Option Value)} {n : Nat} {vs : List Value}, takeK l n = .ok vs → vs.length = n ∧ ∀ i, i < n → l[i]? = some vs[i]?
  | _, 0, vs, h => by
    have : vs = [] := by unfold takeK at h; cases h; rfl
    subst this
    exact ⟨rfl, fun i hi => by omega⟩
  | [], n + 1, vs, h => by simp [takeK] at h
  | none :: l, n + 1, vs, h => by simp [takeK] at h
  | some v :: l, n + 1, vs, h => by
    simp only [takeK] at h
    obtain ⟨ws, h1, h2⟩ := bok h
    cases h2
    obtain ⟨h3, h4⟩ := takeK_ok h1
    refine ⟨by simp [h3], fun i hi => ?_⟩
    cases i with
    | zero => rfl
    | succ i => simpa using h4 i (by omega)

theorem run_loadCellsFrom' : ∀ (n : Nat) (W : World) (b o i : Nat) (vs : List Value) (acc : Array Value), vs.length = n → (∀ k, k < n → W.cell? ⟨b, o + i + k, none⟩ = vs[k]?) →
    (loadCellsFrom ⟨b, o, none⟩ i n acc).run P W = .ok (acc ++ vs.toArray) W
  | 0, W, b, o, i, vs, acc, hl, _ => by
    have : vs = [] := List.length_eq_zero_iff.1 hl
    subst this
    simp [loadCellsFrom]
  | n + 1, W, b, o, i, vs, acc, hl, h => by
    cases vs with
    | nil => simp at hl
    | cons v vs =>
      have h0 := h 0 (by omega)
      simp only [List.getElem?_cons_zero, Nat.add_zero] at h0
      simp only [loadCellsFrom, Sem.run_bind, addr_add, run_load, h0, Result.andThen]
      rw [run_loadCellsFrom' n W b o (i + 1) vs _ (by simpa using hl) (fun k hk => by
        have := h (k + 1) (by omega)
        rw [show o + (i + 1) + k = o + i + (k + 1) by omega, this]
        simp)]
      simp

theorem run_loadCells' {n : Nat} {W : World} {b o : Nat} {vs : List Value} (hl : vs.length = n) (h : ∀ k, k < n → W.cell? ⟨b, o + k, none⟩ = vs[k]?) :
    (loadCells ⟨b, o, none⟩ n).run P W = .ok vs.toArray W := by
  unfold loadCells
  rw [run_loadCellsFrom' n W b o 0 vs #[] hl (by simpa using h)]
  simp

/-- known cells of a row, as the memory has them -/
theorem read_row {ρ : Ren} {H : AH} {W : World} (h : Rel ρ H W) {id off n : Nat} {r : Row} {pl : Pl} {vs : List Value} (hr : H.get id = some (.row r)) (hp : ρ id = some pl) (hk : takeK (r.cells.drop off) n = .ok vs) :
    ∃ vs', vs'.length = n ∧ (∀ k, k < n → W.cell? ⟨pl.blk, pl.base + off + k, none⟩ = vs'[k]?) ∧ LR ρ vs vs' := by
  obtain ⟨h1, h2⟩ := takeK_ok hk
  obtain ⟨p0, hp0, _, hor⟩ := h.obj id _ hr
  rw [hp] at hp0; cases hp0
  have hcell : ∀ k, k < n → ∃ v', W.cell? ⟨pl.blk, pl.base + off + k, none⟩ = some v' ∧ ∀ v, vs[k]? = some v → VR ρ v v' := fun k hk' => by
    have h3 := h2 k hk'
    rw [List.getElem?_drop] at h3
    have hlt : off + k < r.cells.length := by
      rcases Nat.lt_or_ge (off + k) r.cells.length with h' | h'
      · exact h'
      · rw [List.getElem?_eq_none h'] at h3; cases h3
    obtain ⟨v', a1, a2, _⟩ := hor.2.2.1 (off + k) (by have := hor.2.1; omega)
    refine ⟨v', by rw [Nat.add_assoc]; exact a1, fun v hv => a2 v ?_⟩
    rw [h3, hv]
  refine ⟨(List.range n).map fun k => (W.cell? ⟨pl.blk, pl.base + off + k, none⟩).getD undef, by simp, fun k hk' => ?_, ⟨by simp [h1], fun i v v' hv hv' => ?_⟩⟩
  · obtain ⟨v', a1, _⟩ := hcell k hk'
    simp [List.getElem?_map, List.getElem?_range hk', a1]
  · have hi : i < n := by
      rcases Nat.lt_or_ge i n with h' | h'
      · exact h'
      · rw [List.getElem?_eq_none (by omega)] at hv; cases hv
    obtain ⟨u, a1, a2⟩ := hcell i hi
    simp [List.getElem?_map, List.getElem?_range hi, a1] at hv'
    subst hv'
    exact a2 v hv

/-- a place that is named: where it is -/
theorem addrOf_ok {v : Value} {id off : Nat} (h : addrOf v = .ok (id, off)) : v = .pointer (some ⟨id, off, none⟩) := by
  unfold addrOf at h
  split at h
  · cases h; rfl
  · cases h

theorem VR.at {ρ : Ren} {id off : Nat} {v' : Value} (h : VR ρ (.pointer (some ⟨id, off, none⟩)) v') : ∃ pl, ρ id = some pl ∧ v' = .pointer (some ⟨pl.blk, pl.base + off, none⟩) := by
  cases h with
  | ptr hp => exact ⟨_, hp, rfl⟩

theorem run_loadVar' {ρ : Ren} {H : AH} {W : World} (h : Rel ρ H W) {t id off : Nat} {v : Value} {pl : Pl} (hp : ρ id = some pl) (hv : aLoad P H t id off = .ok v) :
    ∃ v', (loadVar t ⟨pl.blk, pl.base + off, none⟩).run P W = .ok v' W ∧ VR ρ v v' := by
  unfold aLoad at hv
  obtain ⟨r, hrow, hv⟩ := bok hv
  have hr := AH.row_ok hrow
  obtain ⟨b, hb, hv⟩ := bok hv
  have hagg := run_isAgg' hb
  cases b with
  | true =>
    simp only [if_true] at hv
    obtain ⟨n, hn, hv⟩ := bok hv
    obtain ⟨vs, hk, hv⟩ := bok hv
    cases hv
    obtain ⟨vs', h1, h2, h3⟩ := read_row h hr hp hk
    refine ⟨.agg vs'.toArray, ?_, VR.agg' h3⟩
    simp only [loadVar, Sem.run_bind, hagg W, Result.andThen, if_true, run_sizeOf' hn W, run_loadCells' h1 h2, Sem.run_pure]
  | false =>
    simp only [Bool.false_eq_true, if_false] at hv
    split at hv
    · rename_i v0 hc
      cases hv
      have hlt : off < r.cells.length := by
        rcases Nat.lt_or_ge off r.cells.length with h' | h'
        · exact h'
        · rw [List.getElem?_eq_none h'] at hc; cases hc
      obtain ⟨p0, hp0, _, hor⟩ := h.obj id _ hr
      rw [hp] at hp0; cases hp0
      obtain ⟨v', a1, a2, _⟩ := hor.2.2.1 off (by have := hor.2.1; omega)
      refine ⟨v', ?_, a2 v hc⟩
      simp only [loadVar, Sem.run_bind, hagg W, Result.andThen, Bool.false_eq_true, if_false, run_load, a1]
    · cases hv

end
end Go.Eng
