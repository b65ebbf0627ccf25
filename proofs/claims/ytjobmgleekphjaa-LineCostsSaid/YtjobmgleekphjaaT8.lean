/-
  Layer 14: what the caller hands in, as the abstract machine has it.
-/
import Derived.Test.YtjobmgleekphjaaT7
import Derived.ProofKit
import Derived.OpenShut
set_option linter.unusedVariables false
set_option linter.unusedSimpArgs false
namespace Go.Eng.T3
open Go.Proofs

section
variable {H : Type} {enc : TypeId × Value → H} {W : World} {base : Nat} {sp : Nat → Bool} {hd : Bool}

theorem mapM_at {α β : Type} {f : α → Option β} : ∀ {l : List α} {r : List β}, l.mapM f = some r → ∀ (i : Nat) (x : α), l[i]? = some x → ∃ y, f x = some y
  | [], _, _, i, x, h => by simp at h
  | z :: l, r, h, i, x, hx => by
    simp only [List.mapM_cons, bind, Option.bind_eq_some_iff] at h
    obtain ⟨y, h1, ys, h2, _⟩ := h
    cases i with
    | zero => simp at hx; subst hx; exact ⟨y, h1⟩
    | succ i => exact mapM_at h2 i x (by simpa using hx)

theorem trod_int' {fuel : Nat} {t : TypeId} {k : IntKind} {c : Value} {x : DataW H × List MemPlace} (ht : Try.prog.underlying t = some (.int k)) (h : DataW.trod enc Try.prog W base sp hd fuel t [c] = some x) : ∃ n, c = .int k n := by
  cases fuel with
  | zero => simp [DataW.trod] at h
  | succ fuel =>
    cases c <;> simp [DataW.trod, ht] at h
    exact ⟨_, by rw [h.1.1]⟩
theorem trod_bool' {fuel : Nat} {t : TypeId} {c : Value} {x : DataW H × List MemPlace} (ht : Try.prog.underlying t = some .bool) (h : DataW.trod enc Try.prog W base sp hd fuel t [c] = some x) : ∃ b, c = .bool b := by
  cases fuel with
  | zero => simp [DataW.trod] at h
  | succ fuel =>
    cases c <;> simp [DataW.trod, ht] at h
    exact ⟨_, rfl⟩
theorem trod_str' {fuel : Nat} {t : TypeId} {c : Value} {x : DataW H × List MemPlace} (ht : Try.prog.underlying t = some .string) (h : DataW.trod enc Try.prog W base sp hd fuel t [c] = some x) : ∃ s, c = .string s := by
  cases fuel with
  | zero => simp [DataW.trod] at h
  | succ fuel =>
    cases c <;> simp [DataW.trod, ht] at h
    exact ⟨_, rfl⟩

theorem cells71 : Try.prog.cellsOf 71 = 13 := by kernel_rfl
theorem cells57 : Try.prog.cellsOf 57 = 14 := by kernel_rfl
theorem cells3 : Try.prog.cellsOf 3 = 1 := by kernel_rfl
theorem cells4 : Try.prog.cellsOf 4 = 1 := by kernel_rfl
theorem cells9 : Try.prog.cellsOf 9 = 1 := by kernel_rfl

/-- a struct's parts -/
theorem trod_parts {fuel : Nat} {t : TypeId} {fs : Array Field} {cs : List Value} {x : DataW H × List MemPlace} (ht : Try.prog.underlying t = some (.struct fs)) (h : DataW.trod enc Try.prog W base sp hd fuel t cs = some x) :
    cs.length = Try.prog.cellsOf t ∧ ∃ n, ∀ (i : Nat) (f : Field), fs.toList[i]? = some f → ∃ y, DataW.trod enc Try.prog W base sp hd n f.type ((cs.drop f.offset).take (Try.prog.cellsOf f.type)) = some y := by
  cases fuel with
  | zero => simp [DataW.trod] at h
  | succ fuel =>
    have h' : (if cs.length = Try.prog.cellsOf t then (fs.toList.mapM fun f => DataW.trod enc Try.prog W base sp hd fuel f.type ((cs.drop f.offset).take (Try.prog.cellsOf f.type))).map fun xs => (DataW.agg (xs.map (·.1)), xs.flatMap (·.2)) else none) = some x := by
      rw [← h]
      conv => rhs; unfold DataW.trod
      rw [ht]
    split at h'
    · rename_i hl
      simp only [Option.map_eq_some_iff] at h'
      obtain ⟨xs, hx, _⟩ := h'
      exact ⟨hl, fuel, fun i f hf => mapM_at hx i f hf⟩
    · cases h'

set_option maxRecDepth 100000 in
theorem item_of {fuel : Nat} {cs : List Value} {x : DataW H × List MemPlace} (h : DataW.trod enc Try.prog W base sp hd fuel 71 cs = some x) : ∃ y : ItemV, cs = itemL y := by
  obtain ⟨hl, n, hp⟩ := trod_parts Try.underlying71 h
  rw [cells71] at hl
  match cs, hl with
  | [c0, c1, c2, c3, c4, c5, c6, c7, c8, c9, c10, c11, c12], _ =>
    have I : ∀ (i : Nat) (f : Field) (c : Value), (match Try.prog.underlying 71 with | some (.struct fs) => fs | _ => #[]).toList[i]? = some f → True := fun _ _ _ _ => trivial
    obtain ⟨_, e0⟩ := hp 0 _ rfl
    obtain ⟨_, e1⟩ := hp 1 _ rfl
    obtain ⟨_, e2⟩ := hp 2 _ rfl
    obtain ⟨_, e3⟩ := hp 3 _ rfl
    obtain ⟨_, e4⟩ := hp 4 _ rfl
    obtain ⟨_, e5⟩ := hp 5 _ rfl
    obtain ⟨_, e6⟩ := hp 6 _ rfl
    obtain ⟨_, e7⟩ := hp 7 _ rfl
    obtain ⟨_, e8⟩ := hp 8 _ rfl
    obtain ⟨_, e9⟩ := hp 9 _ rfl
    obtain ⟨_, e10⟩ := hp 10 _ rfl
    obtain ⟨_, e11⟩ := hp 11 _ rfl
    obtain ⟨_, e12⟩ := hp 12 _ rfl
    simp only [cells3, cells4, cells9, List.drop_zero, List.drop_succ_cons, List.take_succ_cons, List.take_zero] at e0 e1 e2 e3 e4 e5 e6 e7 e8 e9 e10 e11 e12
    obtain ⟨n0, rfl⟩ := trod_int' Try.underlying3 e0
    obtain ⟨n1, rfl⟩ := trod_str' Try.underlying9 e1
    obtain ⟨n2, rfl⟩ := trod_int' Try.underlying3 e2
    obtain ⟨n3, rfl⟩ := trod_int' Try.underlying3 e3
    obtain ⟨n4, rfl⟩ := trod_int' Try.underlying3 e4
    obtain ⟨n5, rfl⟩ := trod_int' Try.underlying3 e5
    obtain ⟨n6, rfl⟩ := trod_int' Try.underlying3 e6
    obtain ⟨n7, rfl⟩ := trod_int' Try.underlying3 e7
    obtain ⟨n8, rfl⟩ := trod_int' Try.underlying3 e8
    obtain ⟨n9, rfl⟩ := trod_int' Try.underlying3 e9
    obtain ⟨n10, rfl⟩ := trod_bool' Try.underlying4 e10
    obtain ⟨n11, rfl⟩ := trod_int' Try.underlying3 e11
    obtain ⟨n12, rfl⟩ := trod_int' Try.underlying3 e12
    exact ⟨⟨n0, n1, n2, n3, n4, n5, n6, n7, n8, n9, n10, n11, n12⟩, rfl⟩

set_option maxRecDepth 100000 in
theorem line_of {fuel : Nat} {cs : List Value} {x : DataW H × List MemPlace} (h : DataW.trod enc Try.prog W base sp hd fuel 57 cs = some x) : ∃ y : LineV, .agg cs.toArray = lineV y := by
  obtain ⟨hl, n, hp⟩ := trod_parts Try.underlying57 h
  rw [cells57] at hl
  match cs, hl with
  | [c0, c1, c2, c3, c4, c5, c6, c7, c8, c9, c10, c11, c12, c13], _ =>
    obtain ⟨_, e0⟩ := hp 0 _ rfl
    obtain ⟨_, e1⟩ := hp 1 _ rfl
    obtain ⟨_, e2⟩ := hp 2 _ rfl
    obtain ⟨_, e3⟩ := hp 3 _ rfl
    obtain ⟨_, e4⟩ := hp 4 _ rfl
    obtain ⟨_, e5⟩ := hp 5 _ rfl
    obtain ⟨_, e6⟩ := hp 6 _ rfl
    obtain ⟨_, e7⟩ := hp 7 _ rfl
    obtain ⟨_, e8⟩ := hp 8 _ rfl
    obtain ⟨_, e9⟩ := hp 9 _ rfl
    obtain ⟨_, e10⟩ := hp 10 _ rfl
    obtain ⟨_, e11⟩ := hp 11 _ rfl
    obtain ⟨_, e12⟩ := hp 12 _ rfl
    obtain ⟨_, e13⟩ := hp 13 _ rfl
    simp only [cells3, cells4, cells9, List.drop_zero, List.drop_succ_cons, List.take_succ_cons, List.take_zero] at e0 e1 e2 e3 e4 e5 e6 e7 e8 e9 e10 e11 e12 e13
    obtain ⟨n0, rfl⟩ := trod_int' Try.underlying3 e0
    obtain ⟨n1, rfl⟩ := trod_int' Try.underlying3 e1
    obtain ⟨n2, rfl⟩ := trod_int' Try.underlying3 e2
    obtain ⟨n3, rfl⟩ := trod_int' Try.underlying3 e3
    obtain ⟨n4, rfl⟩ := trod_int' Try.underlying3 e4
    obtain ⟨n5, rfl⟩ := trod_int' Try.underlying3 e5
    obtain ⟨n6, rfl⟩ := trod_int' Try.underlying3 e6
    obtain ⟨n7, rfl⟩ := trod_int' Try.underlying3 e7
    obtain ⟨n8, rfl⟩ := trod_int' Try.underlying3 e8
    obtain ⟨n9, rfl⟩ := trod_bool' Try.underlying4 e9
    obtain ⟨n10, rfl⟩ := trod_bool' Try.underlying4 e10
    obtain ⟨n11, rfl⟩ := trod_bool' Try.underlying4 e11
    obtain ⟨n12, rfl⟩ := trod_int' Try.underlying3 e12
    obtain ⟨n13, rfl⟩ := trod_int' Try.underlying3 e13
    exact ⟨⟨n0, n1, n2, n3, n4, n5, n6, n7, n8, n9, n10, n11, n12, n13⟩, rfl⟩

theorem choose_list {α : Type} {Q : Nat → α → Prop} : ∀ (n : Nat), (∀ i, i < n → ∃ y, Q i y) → ∃ L : List α, L.length = n ∧ ∀ (i : Nat) (x : α), L[i]? = some x → Q i x
  | 0, _ => ⟨[], rfl, fun i x h => by simp at h⟩
  | n + 1, h => by
    obtain ⟨L, h1, h2⟩ := choose_list n (fun i hi => h i (by omega))
    obtain ⟨y, hy⟩ := h n (by omega)
    refine ⟨L ++ [y], by simp [h1], fun i x hx => ?_⟩
    by_cases hi : i < n
    · rw [List.getElem?_append_left (by omega)] at hx
      exact h2 i x hx
    · have hlt : i < (L ++ [y]).length := by
        rcases Nat.lt_or_ge i (L ++ [y]).length with h' | h'
        · exact h'
        · rw [List.getElem?_eq_none h'] at hx; cases hx
      simp [h1] at hlt
      have : i = n := by omega
      subst this
      rw [List.getElem?_append_right (by omega), h1] at hx
      simp at hx
      subst hx
      exact hy

/-- a slice of items, as it lies -/
theorem slice_of {fuel : Nat} {a : Addr} {len cap : Nat} {x : DataW H × List MemPlace} (h : DataW.trod enc Try.prog W 0 sp hd fuel 42 [.slice (some a) len cap] = some x) :
    len ≤ cap ∧ cap ≤ maxLen ∧ ∃ L : List ItemV, L.length = len ∧ ∀ (i : Nat) (y : ItemV), L[i]? = some y → ∀ j, j < 13 → W.cell? ((a.add (i * 13)).add j) = (itemL y)[j]? := by
  cases fuel with
  | zero => simp [DataW.trod] at h
  | succ fuel =>
    simp only [DataW.trod, Try.underlying42, cells71] at h
    split at h
    · rename_i hc
      simp only [Option.bind_eq_some_iff] at h
      obtain ⟨elems, he, _⟩ := h
      refine ⟨hc.2.1, hc.2.2, ?_⟩
      obtain ⟨L, h1, h2⟩ := choose_list (Q := fun i (y : ItemV) => ∀ j, j < 13 → W.cell? ((a.add (i * 13)).add j) = (itemL y)[j]?) len (fun i hi => by
        obtain ⟨r, hr⟩ := mapM_at he i i (by simp [hi])
        simp only [Option.bind_eq_some_iff] at hr
        obtain ⟨cs, h3, h4⟩ := hr
        obtain ⟨y, rfl⟩ := item_of h4
        exact ⟨y, (World.cells?_some h3).2.2⟩)
      exact ⟨L, h1, h2⟩
    · cases h
end

end Go.Eng.T3
