/-
  From a function's walk to a statement: the caller's slices as rows, and what a call of a law gives.
-/
import Derived.Test.YtjobmgleekphjaaM18
import Derived.Test.YtjobmgleekphjaaE20o
set_option linter.unusedVariables false
set_option linter.unusedSimpArgs false
namespace Go.Eng
noncomputable section
variable {P : Program}

def env0 : Env := ⟨[], [], fun _ _ _ => True⟩

theorem inv0 {W : World} {l : List (Row × Pl)} (h : ∀ x ∈ l, Lent (rhoOf l) W x.1 x.2) : HInv env0 [] [] (firstOf l) := by
  have hn : (firstOf l).next = l.length := by unfold firstOf; rw [heapOf_next l 0 _ rfl]; omega
  refine ⟨⟨fun id o ho => ?_, fun id r hr => ?_⟩, rfl, fun i j id hi => ?_, fun k id R hk => ?_, rfl, fun t t' τ τ' ht => ?_, fun t τ ht => ?_, fun t τ ht => ?_⟩
  · rw [firstOf_get] at ho
    cases hx : l[id]? with
    | none => rw [hx] at ho; cases ho
    | some x => rw [hn]; exact lt_of_get hx
  · rw [firstOf_get] at hr
    cases hx : l[id]? with
    | none => rw [hx] at hr; cases hr
    | some x =>
      rw [hx] at hr
      cases hr
      rw [(h x (List.mem_of_getElem? hx)).fam, hn]
      have := lt_of_get hx
      omega
  · simp [env0] at hi
  · simp [env0] at hk
  · simp [env0] at ht
  · simp [env0] at ht
  · simp [env0] at ht

theorem xc0 (H : AH) : XC env0 H := ⟨fun _ _ _ _ _ => trivial, fun _ _ _ _ _ _ => trivial⟩

/-- **A law that answers true in the calculus answers true, and nothing of what was there has turned.** -/
theorem law_pf {O : FuncId → Option Value} (hO : Told P O) {W : World} {l : List (Row × Pl)} (h : ∀ x ∈ l, Lent (rhoOf l) W x.1 x.2) {vs : List Value} {args : Array Value} (ha : LR (rhoOf l) vs args.toList) {f : FuncId} {ps : List PV}
    (hp : PF P O f ps [] [] (fun p fr tk => p = .val (.bool true) ∧ fr = [] ∧ tk = [])) (hv : L2 (RV env0 [] (firstOf l) true) ps vs) : Calls P f args W (fun e w' => e = .returned (.bool true) ∧ Kept W w') := by
  obtain ⟨n, v, H', h1, e', fr', tk', p, _, h2, rfl, _, _⟩ := hp env0 (firstOf l) vs (inv0 h) (xc0 _) hv
  cases h2
  exact law_first_o hO h ha h1

/-! ### Slices of the caller's -/
section rows
variable {α : Type} {enc : α → List Value} {sz : Nat}

theorem flat_len' (hs : ∀ x, (enc x).length = sz) : ∀ (L : List α), (L.flatMap enc).length = L.length * sz
  | [] => by simp
  | x :: L => by
    rw [List.flatMap_cons, List.length_append, hs, flat_len' hs L, List.length_cons, Nat.add_mul, Nat.one_mul]
    omega

theorem flat_at' (hs : ∀ x, (enc x).length = sz) : ∀ (L : List α) (i : Nat) (x : α), L[i]? = some x → ∀ (j : Nat) (v : Value), (enc x)[j]? = some v → (L.flatMap enc)[i * sz + j]? = some v
  | [], i, x, h, _, _, _ => by simp at h
  | y :: L, i, x, h, j, v, hv => by
    rw [List.flatMap_cons]
    cases i with
    | zero =>
      simp at h; subst h
      rw [Nat.zero_mul, Nat.zero_add, List.getElem?_append_left (lt_of_get hv)]
      exact hv
    | succ i =>
      have e : (i + 1) * sz = i * sz + sz := by rw [Nat.add_mul, Nat.one_mul]
      rw [e, List.getElem?_append_right (by rw [hs]; omega), hs]
      rw [show i * sz + sz + j - sz = i * sz + j by omega]
      exact flat_at' hs L i x (by simpa using h) j v hv

def lentRow (enc : α → List Value) (sz : Nat) (ty : TypeId) (L : List α) (o : Nat) : Row := { cells := (L.flatMap enc).map some, ty := ty, fam := 0, disp := o, esz := sz, ro := true, solo := false }

theorem lent_row {W : World} {ρ : Ren} {ty : TypeId} {L : List α} {b o : Nat} (hs : ∀ x, (enc x).length = sz) (hg : ∀ x, (enc x).all (gnd gd) = true) (hb : b < W.heap.size) (h0 : 0 < sz)
    (h : ∀ (i : Nat) (y : α), L[i]? = some y → ∀ j, j < sz → W.cell? (((⟨b, o, none⟩ : Addr).add (i * sz)).add j) = (enc y)[j]?) :
    Lent ρ W (lentRow enc sz ty L o) ⟨b, o, sz, L.length * sz⟩ := by
  refine ⟨rfl, rfl, rfl, rfl, hb, rfl, ?_, fun j hj => ?_⟩
  · show ((L.flatMap enc).map some).length ≤ L.length * sz
    rw [List.length_map, flat_len' hs]; exact Nat.le_refl _
  · have hj' : j < L.length * sz := hj
    have hi : j / sz < L.length := Nat.div_lt_of_lt_mul (by rw [Nat.mul_comm]; exact hj')
    have hf : j % sz < sz := Nat.mod_lt _ h0
    have hm : j / sz * sz + j % sz = j := by rw [Nat.mul_comm]; exact Nat.div_add_mod j sz
    have hy := List.getElem?_eq_getElem hi
    have hlt : j % sz < (enc L[j / sz]).length := by rw [hs]; exact hf
    have hc := h (j / sz) _ hy (j % sz) hf
    rw [addr_add, addr_add, List.getElem?_eq_getElem hlt] at hc
    have e : o + j / sz * sz + j % sz = o + j := by omega
    rw [e] at hc
    refine ⟨_, hc, fun v hv => ?_, fun h => by cases h⟩
    have hv' : ((L.flatMap enc).map some)[j]? = some (some v) := hv
    have hat := flat_at' hs L (j / sz) _ hy (j % sz) _ (List.getElem?_eq_getElem hlt)
    rw [hm] at hat
    rw [List.getElem?_map, hat] at hv'
    simp only [Option.map_some, Option.some.injEq] at hv'
    subst hv'
    exact gnd_refl _ (List.all_eq_true.1 (hg _) _ (List.getElem_mem _))

theorem rv_row {l : List (Row × Pl)} {id : Nat} {pl : Pl} {ty : TypeId} {L : List α} {o c : Nat} (hs : ∀ x, (enc x).length = sz) (hpl : ∀ x, (enc x).all plainCell = true) (hid : l[id]? = some (lentRow enc sz ty L o, pl)) (hc : L.length ≤ c) :
    RV env0 [] (firstOf l) true (.list sz (L.map fun x => (enc x).map PV.val) none) (.slice (some ⟨id, 0, none⟩) L.length c) := by
  have hn : (firstOf l).next = l.length := by unfold firstOf; rw [heapOf_next l 0 _ rfl]; omega
  have hlt := lt_of_get hid
  have cell : ∀ (i : Nat) (cs : List PV) (j : Nat) (p : PV), (L.map fun x => (enc x).map PV.val)[i]? = some cs → cs[j]? = some p → ∃ x v, L[i]? = some x ∧ (enc x)[j]? = some v ∧ p = .val v ∧ plainCell v = true := by
    intro i cs j p h1 h2
    rw [List.getElem?_map] at h1
    cases hx : L[i]? with
    | none => rw [hx] at h1; cases h1
    | some x =>
      rw [hx] at h1
      cases h1
      rw [List.getElem?_map] at h2
      cases hv : (enc x)[j]? with
      | none => rw [hv] at h2; cases h2
      | some v =>
        rw [hv] at h2
        cases h2
        exact ⟨x, v, rfl, hv, rfl, List.all_eq_true.1 (hpl x) v (List.mem_of_getElem? hv)⟩
  have e : (L.map fun x => (enc x).map PV.val).length = L.length := List.length_map _
  have main := RV.list (e := env0) (tk := []) (H := firstOf l) (b := true) (sz := sz) (l := L.map fun x => (enc x).map PV.val) (t := none) (id := id) (off := 0) (c := c) (n := L.length * sz) (r := lentRow enc sz ty L o)
    (fun i j => ((L[i]?).bind fun x => (enc x)[j]?).getD (.bool false)) (by rw [firstOf_get, hid]; rfl) (by rw [e]; omega) ⟨by rw [hn]; exact hlt, by show 0 < _; rw [hn]; omega, trivial, by simp [env0], fun t τ n ht => by simp [env0] at ht⟩ rfl
    (by rw [e]; exact hc) (by show _ ≤ ((L.flatMap enc).map some).length; rw [e, List.length_map, flat_len' hs]; omega)
    (fun i cs hi => by
      rw [List.getElem?_map] at hi
      cases hx : L[i]? with
      | none => rw [hx] at hi; cases hi
      | some x => rw [hx] at hi; cases hi; rw [List.length_map, hs])
    (fun i cs j p h1 h2 => by obtain ⟨x, v, _, _, rfl, h⟩ := cell i cs j p h1 h2; exact h)
    (fun i cs j p h1 h2 => by
      obtain ⟨x, v, h3, h4, rfl, h⟩ := cell i cs j p h1 h2
      show ((L.flatMap enc).map some)[0 + i * sz + j]? = _
      rw [h3, Nat.zero_add, List.getElem?_map, flat_at' hs L i x h3 j v h4, Option.bind_some, h4]; rfl)
    (fun i cs j p h1 h2 => by
      obtain ⟨x, v, h3, h4, rfl, h⟩ := cell i cs j p h1 h2
      rw [h3, Option.bind_some, h4]
      exact .val h)
    (fun k hk => by cases hk)
  rw [e] at main
  exact main

end rows
end
end Go.Eng
