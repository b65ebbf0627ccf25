/-
  Layer 14, LineAdds: what the caller hands in, and the call.
-/
import Derived.Test.YtjobmgleekphjaaB1
import Derived.Test.YtjobmgleekphjaaP12
import Derived.Test.YtjobmgleekphjaaT9s
import Derived.ProofKit
import Derived.OpenShut
set_option linter.unusedVariables false
set_option linter.unusedSimpArgs false
namespace Go.Eng.Lift
open Go.Proofs

theorem told : Told Try.prog orc := by
  intro f v hf
  have h : f = 28 ∧ v = .bool true := by
    unfold orc at hf
    cases hb : Nat.beq f 28 with
    | false => rw [hb] at hf; cases hf
    | true =>
      rw [hb] at hf
      cases hf
      exact ⟨Nat.eq_of_beq_eq_true hb, rfl⟩
  obtain ⟨rfl, rfl⟩ := h
  refine ⟨rfl, 5000, ?_⟩
  have h := T3.shown28
  rw [fRun_eq] at h
  unfold T3.resB at h
  split at h
  · rename_i b H' e
    cases h
    exact ⟨H', e⟩
  · cases h

def vGItem (x : GItem) : List Value := [.int .i64 x.kind, .string x.font, .int .i64 x.size, .int .i64 x.rune, .int .i64 x.width, .int .i64 x.height, .int .i64 x.depth, .int .i64 x.stretch, .int .i64 x.shrink, .int .i64 x.value, .bool x.flag, .int .i64 x.from_, .int .i64 x.to_]
theorem map_item (L : List GItem) : L.map cGItem = L.map fun x => (vGItem x).map PV.val := rfl

section
variable {H : Type} {enc : TypeId × Value → H} {W : World} {base : Nat} {sp : Nat → Bool} {hd : Bool}

theorem mapM_at {α β : Type} {f : α → Option β} : ∀ {l : List α} {r : List β}, l.mapM f = some r → ∀ (i : Nat) (x : α), l[i]? = some x → ∃ y, f x = some y
  | [], _, _, i, x, h => by simp at h
  | z :: l, r, h, i, x, hx => by
    simp only [List.mapM_cons, bind, Option.bind_eq_some_iff] at h
    obtain ⟨y, h1, ys, h2, _⟩ := h
    cases i with
    | zero => simp at hx; subst hx; exact ⟨y, h1⟩
    | succ i => exact mapM_at h2 i x (by simpa using hx)

theorem trod_int' {fuel : Nat} {t : TypeId} {k : IntKind} {c : Value} {x : DataW H × List MemPlace} (ht : Try.prog.underlying t = some (.int k)) (h : DataW.trod enc Try.prog W base sp hd fuel t [c] = some x) : ∃ n, c = .int k n := by
  cases fuel with
  | zero => simp [DataW.trod] at h
  | succ fuel =>
    cases c <;> simp [DataW.trod, ht] at h
    exact ⟨_, by rw [h.1.1]⟩
theorem trod_bool' {fuel : Nat} {t : TypeId} {c : Value} {x : DataW H × List MemPlace} (ht : Try.prog.underlying t = some .bool) (h : DataW.trod enc Try.prog W base sp hd fuel t [c] = some x) : ∃ b, c = .bool b := by
  cases fuel with
  | zero => simp [DataW.trod] at h
  | succ fuel =>
    cases c <;> simp [DataW.trod, ht] at h
    exact ⟨_, rfl⟩
theorem trod_str' {fuel : Nat} {t : TypeId} {c : Value} {x : DataW H × List MemPlace} (ht : Try.prog.underlying t = some .string) (h : DataW.trod enc Try.prog W base sp hd fuel t [c] = some x) : ∃ s, c = .string s := by
  cases fuel with
  | zero => simp [DataW.trod] at h
  | succ fuel =>
    cases c <;> simp [DataW.trod, ht] at h
    exact ⟨_, rfl⟩

theorem cells71 : Try.prog.cellsOf 71 = 13 := by kernel_rfl
theorem cells57 : Try.prog.cellsOf 57 = 14 := by kernel_rfl
theorem cells3 : Try.prog.cellsOf 3 = 1 := by kernel_rfl
theorem cells4 : Try.prog.cellsOf 4 = 1 := by kernel_rfl
theorem cells9 : Try.prog.cellsOf 9 = 1 := by kernel_rfl

/-- a struct's parts -/
theorem trod_parts {fuel : Nat} {t : TypeId} {fs : Array Field} {cs : List Value} {x : DataW H × List MemPlace} (ht : Try.prog.underlying t = some (.struct fs)) (h : DataW.trod enc Try.prog W base sp hd fuel t cs = some x) :
    cs.length = Try.prog.cellsOf t ∧ ∃ n, ∀ (i : Nat) (f : Field), fs.toList[i]? = some f → ∃ y, DataW.trod enc Try.prog W base sp hd n f.type ((cs.drop f.offset).take (Try.prog.cellsOf f.type)) = some y := by
  cases fuel with
  | zero => simp [DataW.trod] at h
  | succ fuel =>
    have h' : (if cs.length = Try.prog.cellsOf t then (fs.toList.mapM fun f => DataW.trod enc Try.prog W base sp hd fuel f.type ((cs.drop f.offset).take (Try.prog.cellsOf f.type))).map fun xs => (DataW.agg (xs.map (·.1)), xs.flatMap (·.2)) else none) = some x := by
      rw [← h]
      conv => rhs; unfold DataW.trod
      rw [ht]
    split at h'
    · rename_i hl
      simp only [Option.map_eq_some_iff] at h'
      obtain ⟨xs, hx, _⟩ := h'
      exact ⟨hl, fuel, fun i f hf => mapM_at hx i f hf⟩
    · cases h'

set_option maxRecDepth 100000 in
theorem item_of {fuel : Nat} {cs : List Value} {x : DataW H × List MemPlace} (h : DataW.trod enc Try.prog W base sp hd fuel 71 cs = some x) : ∃ y : GItem, cs = vGItem y := by
  obtain ⟨hl, n, hp⟩ := trod_parts Try.underlying71 h
  rw [cells71] at hl
  match cs, hl with
  | [c0, c1, c2, c3, c4, c5, c6, c7, c8, c9, c10, c11, c12], _ =>
    have I : ∀ (i : Nat) (f : Field) (c : Value), (match Try.prog.underlying 71 with | some (.struct fs) => fs | _ => #[]).toList[i]? = some f → True := fun _ _ _ _ => trivial
    obtain ⟨_, e0⟩ := hp 0 _ rfl
    obtain ⟨_, e1⟩ := hp 1 _ rfl
    obtain ⟨_, e2⟩ := hp 2 _ rfl
    obtain ⟨_, e3⟩ := hp 3 _ rfl
    obtain ⟨_, e4⟩ := hp 4 _ rfl
    obtain ⟨_, e5⟩ := hp 5 _ rfl
    obtain ⟨_, e6⟩ := hp 6 _ rfl
    obtain ⟨_, e7⟩ := hp 7 _ rfl
    obtain ⟨_, e8⟩ := hp 8 _ rfl
    obtain ⟨_, e9⟩ := hp 9 _ rfl
    obtain ⟨_, e10⟩ := hp 10 _ rfl
    obtain ⟨_, e11⟩ := hp 11 _ rfl
    obtain ⟨_, e12⟩ := hp 12 _ rfl
    simp only [cells3, cells4, cells9, List.drop_zero, List.drop_succ_cons, List.take_succ_cons, List.take_zero] at e0 e1 e2 e3 e4 e5 e6 e7 e8 e9 e10 e11 e12
    obtain ⟨n0, rfl⟩ := trod_int' Try.underlying3 e0
    obtain ⟨n1, rfl⟩ := trod_str' Try.underlying9 e1
    obtain ⟨n2, rfl⟩ := trod_int' Try.underlying3 e2
    obtain ⟨n3, rfl⟩ := trod_int' Try.underlying3 e3
    obtain ⟨n4, rfl⟩ := trod_int' Try.underlying3 e4
    obtain ⟨n5, rfl⟩ := trod_int' Try.underlying3 e5
    obtain ⟨n6, rfl⟩ := trod_int' Try.underlying3 e6
    obtain ⟨n7, rfl⟩ := trod_int' Try.underlying3 e7
    obtain ⟨n8, rfl⟩ := trod_int' Try.underlying3 e8
    obtain ⟨n9, rfl⟩ := trod_int' Try.underlying3 e9
    obtain ⟨n10, rfl⟩ := trod_bool' Try.underlying4 e10
    obtain ⟨n11, rfl⟩ := trod_int' Try.underlying3 e11
    obtain ⟨n12, rfl⟩ := trod_int' Try.underlying3 e12
    exact ⟨⟨n0, n1, n2, n3, n4, n5, n6, n7, n8, n9, n10, n11, n12⟩, rfl⟩

theorem choose_list {α : Type} {Q : Nat → α → Prop} : ∀ (n : Nat), (∀ i, i < n → ∃ y, Q i y) → ∃ L : List α, L.length = n ∧ ∀ (i : Nat) (x : α), L[i]? = some x → Q i x
  | 0, _ => ⟨[], rfl, fun i x h => by simp at h⟩
  | n + 1, h => by
    obtain ⟨L, h1, h2⟩ := choose_list n (fun i hi => h i (by omega))
    obtain ⟨y, hy⟩ := h n (by omega)
    refine ⟨L ++ [y], by simp [h1], fun i x hx => ?_⟩
    by_cases hi : i < n
    · rw [List.getElem?_append_left (by omega)] at hx
      exact h2 i x hx
    · have hlt : i < (L ++ [y]).length := by
        rcases Nat.lt_or_ge i (L ++ [y]).length with h' | h'
        · exact h'
        · rw [List.getElem?_eq_none h'] at hx; cases hx
      simp [h1] at hlt
      have : i = n := by omega
      subst this
      rw [List.getElem?_append_right (by omega), h1] at hx
      simp at hx
      subst hx
      exact hy


/-- a slice, as it lies -/
theorem slice_of {α : Type} {encA : α → List Value} {sz : Nat} {ts t : TypeId} {fuel : Nat} {a : Addr} {len cap : Nat} {x : DataW H × List MemPlace} (hts : Try.prog.underlying ts = some (.slice t)) (hsz : Try.prog.cellsOf t = sz)
    (hdec : ∀ (n : Nat) (cs : List Value) (y : DataW H × List MemPlace), DataW.trod enc Try.prog W 0 sp hd n t cs = some y → ∃ z : α, cs = encA z) (h : DataW.trod enc Try.prog W 0 sp hd fuel ts [.slice (some a) len cap] = some x) :
    len ≤ cap ∧ cap ≤ maxLen ∧ ∃ L : List α, L.length = len ∧ ∀ (i : Nat) (y : α), L[i]? = some y → ∀ j, j < sz → W.cell? ((a.add (i * sz)).add j) = (encA y)[j]? := by
  cases fuel with
  | zero => simp [DataW.trod] at h
  | succ fuel =>
    simp only [DataW.trod, hts, hsz] at h
    split at h
    · rename_i hc
      simp only [Option.bind_eq_some_iff] at h
      obtain ⟨elems, he, _⟩ := h
      refine ⟨hc.2.1, hc.2.2, ?_⟩
      obtain ⟨L, h1, h2⟩ := choose_list (Q := fun i (y : α) => ∀ j, j < sz → W.cell? ((a.add (i * sz)).add j) = (encA y)[j]?) len (fun i hi => by
        obtain ⟨r, hr⟩ := mapM_at he i i (by simp [hi])
        simp only [Option.bind_eq_some_iff] at hr
        obtain ⟨cs, h3, h4⟩ := hr
        obtain ⟨y, rfl⟩ := hdec _ _ _ h4
        exact ⟨y, (World.cells?_some h3).2.2⟩)
      exact ⟨L, h1, h2⟩
    · cases h
end

set_option maxRecDepth 100000 in
/-- the caller's slice: none, or a row of the caller's -/
theorem slice_arg {H : Type} {enc : TypeId × Value → H} {W : World} {α : Type} {encA : α → List Value} {sz : Nat} {ts t : TypeId} {base fuel : Nat} {v : Value} {x : DataW H × List MemPlace} (hts : Try.prog.underlying ts = some (.slice t)) (hsz : Try.prog.cellsOf t = sz)
    (hdec : ∀ (n : Nat) (cs : List Value) (y : DataW H × List MemPlace), DataW.trod enc Try.prog W 0 (fun _ => true) true n t cs = some y → ∃ z : α, cs = encA z) (h : DataW.trod enc Try.prog W 0 (fun _ => true) true fuel ts [v] = some x)
    (o1 : Value.okWide Try.prog W .any base ts v) :
    v = .slice none 0 0 ∨ ∃ (b o : Nat) (L : List α) (c : Nat), v = .slice (some ⟨b, o, none⟩) L.length c ∧ b < W.heap.size ∧ L.length ≤ c ∧ c ≤ maxLen ∧ ∀ (i : Nat) (y : α), L[i]? = some y → ∀ j, j < sz → W.cell? (((⟨b, o, none⟩ : Addr).add (i * sz)).add j) = (encA y)[j]? := by
  unfold Value.okWide at o1
  rw [hts] at o1
  simp only at o1
  unfold Cell.okWide at o1
  rw [hts] at o1
  have o1' : Cell.ok Try.prog W .any base ts v := by cases v <;> exact o1
  clear o1
  unfold Cell.ok at o1'
  rw [hts] at o1'
  cases v <;> simp only at o1' <;> first | (exact o1'.elim) | skip
  rename_i ad len cap
  cases ad with
  | none =>
    have hz : len = 0 ∧ cap = 0 := by
      rcases len with _ | len <;> rcases cap with _ | cap <;> first | exact ⟨rfl, rfl⟩ | exact o1'.elim
    obtain ⟨rfl, rfl⟩ := hz
    exact .inl rfl
  | some a =>
    have hs : a.spot = none ∧ a.block < W.heap.size := by
      obtain ⟨_, _, _, h4, row, cells, h5, _⟩ := o1'
      refine ⟨h4, ?_⟩
      rcases Nat.lt_or_ge a.block W.heap.size with h' | h'
      · exact h'
      · exfalso
        unfold World.shape? at h5
        simp [Array.getElem?_eq_none h'] at h5
    obtain ⟨b, o, spt⟩ := a
    obtain ⟨h4, hb⟩ := hs
    simp only at h4
    subst h4
    obtain ⟨h6, h7, L, h8, h9⟩ := slice_of hts hsz hdec h
    subst h8
    exact .inr ⟨b, o, L, cap, rfl, hb, h6, h7, h9⟩



set_option maxRecDepth 100000 in
theorem bool_of {H : Type} {enc : TypeId × Value → H} {W : World} {base : Nat} {sp : Nat → Bool} {hd : Bool} {fuel : Nat} {cs : List Value} {x : DataW H × List MemPlace} (h : DataW.trod enc Try.prog W base sp hd fuel 4 cs = some x) : ∃ y : Bool, cs = [.bool y] := by
  rcases cs with _ | ⟨c, _ | ⟨c2, l⟩⟩
  · cases fuel <;> simp [DataW.trod, Try.underlying4] at h
  · obtain ⟨n, rfl⟩ := trod_bool' Try.underlying4 h
    exact ⟨n, rfl⟩
  · cases fuel <;> simp [DataW.trod, Try.underlying4] at h

def vBool (x : Bool) : List Value := [.bool x]

theorem run12 {W : World} {args : Array Value} {l : List (Row × Pl)} (hl : ∀ x ∈ l, Lent (rhoOf l) W x.1 x.2) {L : List GItem} {a1 a2 : Int} {A : List Bool} {v u : Value} (hlen : (L.length : Int) < 9223372036854775808) (ha : LR (rhoOf l) [v, .int .i64 a1, .int .i64 a2, u] args.toList)
    (hv : RV env0 [] (firstOf l) true (.list 13 (L.map cGItem) none) v) (hu : RV env0 [] (firstOf l) true (.list 1 (A.map cB) none) u) : Calls Try.prog 12 args W (fun e w' => e = .returned (.bool true) ∧ Kept W w') :=
  law_pf told hl ha (L12 _ L a1 a2 A true (t12 L a1 a2 A hlen)) (L2.cons hv (L2.cons (.val rfl) (L2.cons (.val rfl) (L2.cons hu L2.nil))))

def itemRow (L : List GItem) (b o : Nat) : Row × Pl := (lentRow vGItem 13 71 L o, ⟨b, o, 13, L.length * 13⟩)
def boolRow (A : List Bool) (b o : Nat) : Row × Pl := (lentRow vBool 1 4 A o, ⟨b, o, 1, A.length * 1⟩)

theorem lentI {W : World} {ρ : Ren} {b o : Nat} {L : List GItem} (hb : b < W.heap.size) (h : ∀ (i : Nat) (y : GItem), L[i]? = some y → ∀ j, j < 13 → W.cell? (((⟨b, o, none⟩ : Addr).add (i * 13)).add j) = (vGItem y)[j]?) : Lent ρ W (itemRow L b o).1 (itemRow L b o).2 :=
  lent_row (fun _ => rfl) (fun _ => rfl) hb (by decide) h
theorem lentA {W : World} {ρ : Ren} {b o : Nat} {L : List Bool} (hb : b < W.heap.size) (h : ∀ (i : Nat) (y : Bool), L[i]? = some y → ∀ j, j < 1 → W.cell? (((⟨b, o, none⟩ : Addr).add (i * 1)).add j) = (vBool y)[j]?) : Lent ρ W (boolRow L b o).1 (boolRow L b o).2 :=
  lent_row (fun _ => rfl) (fun _ => rfl) hb (by decide) h

set_option maxRecDepth 100000 in
theorem calls12 {H : Type} {enc : TypeId × Value → H} {W : World} {base : Nat} {args : Array Value} {ds : List (DataW H)} {ps : List MemPlace} (hA : DataW.TrodAll enc Try.prog W 0 (fun _ => true) true [42, 3, 3, 68] args.toList ds ps)
    (hval : ∀ (j : Nat) t v, ([42, 3, 3, 68] : List TypeId)[j]? = some t → args.toList[j]? = some v → Value.okWide Try.prog W .any base t v) : Calls Try.prog 12 args W (fun e w' => e = .returned (.bool true) ∧ Kept W w') := by
  rcases hargs : args.toList with _ | ⟨v1, _ | ⟨v2, _ | ⟨v3, _ | ⟨v4, _ | ⟨v5, l⟩⟩⟩⟩⟩ <;> rw [hargs] at hA <;> (rcases ds with _ | ⟨d1, _ | ⟨d2, _ | ⟨d3, _ | ⟨d4, _ | ⟨d5, ds⟩⟩⟩⟩⟩ <;> first | (simp [DataW.TrodAll] at hA; done) | skip)
  rw [hargs] at hval
  obtain ⟨p1, q1, ⟨n1, t1⟩, ⟨p2, q2, ⟨n2, t2⟩, ⟨p3, q3, ⟨n3, t3⟩, ⟨p4, q4, ⟨n4, t4⟩, _, _⟩, _⟩, _⟩, _⟩ := hA
  have o1 := hval 0 42 v1 rfl rfl
  have o2 := hval 1 3 v2 rfl rfl
  have o3 := hval 2 3 v3 rfl rfl
  have o4 := hval 3 68 v4 rfl rfl
  have hmax : maxLen = 9223372036854775807 := by decide
  have hint : ∀ (v : Value), Value.okWide Try.prog W .any base 3 v → ∃ n, v = .int .i64 n := by
    intro v o
    unfold Value.okWide at o
    rw [Try.underlying3] at o
    simp only at o
    unfold Cell.okWide at o
    rw [Try.underlying3] at o
    have o' : Cell.ok Try.prog W .any base 3 v := by cases v <;> exact o
    unfold Cell.ok at o'
    rw [Try.underlying3] at o'
    cases v <;> simp only at o' <;> first | (exact o'.elim) | skip
    rename_i k n
    exact ⟨n, by rw [o'.1]⟩
  obtain ⟨i2, rfl⟩ := hint v2 o2
  obtain ⟨i3, rfl⟩ := hint v3 o3
  have c1 := slice_arg (encA := vGItem) Try.underlying42 cells71 (fun _ _ _ h => item_of h) (show DataW.trod enc Try.prog W 0 (fun _ => true) true n1 42 [v1] = some _ from by cases v1 <;> first | exact t1 | (unfold Value.okWide at o1; rw [Try.underlying42] at o1; simp only at o1; unfold Cell.okWide Cell.ok at o1; rw [Try.underlying42] at o1; exact o1.elim)) o1
  have t4' : ∃ x, DataW.trod enc Try.prog W 0 (fun _ => true) true n4 68 [v4] = some x ∧ x.1 = d4 := ⟨_, by cases v4 <;> first | exact t4 | (unfold Value.okWide at o4; rw [Try.underlying68] at o4; simp only at o4; unfold Cell.okWide Cell.ok at o4; rw [Try.underlying68] at o4; exact o4.elim), rfl⟩
  obtain ⟨x4, t4', hx4⟩ := t4'
  have c2 := slice_arg (encA := vBool) Try.underlying68 cells4 (fun _ _ _ h => bool_of h) t4' o4
  rcases c1 with rfl | ⟨b, o, L, c, rfl, hb, hc, hm, h⟩ <;> rcases c2 with rfl | ⟨b', o', A, c', rfl, hb', hc', hm', h'⟩
  · refine run12 (l := []) (fun x hx => by cases hx) (L := []) (a1 := i2) (a2 := i3) (A := []) (v := .slice none 0 0) (u := .slice none 0 0) (by decide) ?_ (.lnil fun k hk => by cases hk) (.lnil fun k hk => by cases hk)
    rw [hargs]
    exact ((((LR.nil _).cons .sliceNil).cons (.int _ _)).cons (.int _ _)).cons .sliceNil
  · refine run12 (l := [boolRow A b' o']) (fun x hx => ?_) (L := []) (a1 := i2) (a2 := i3) (A := A) (v := .slice none 0 0) (u := .slice (some ⟨0, 0, none⟩) A.length c') (by decide) ?_ (.lnil fun k hk => by cases hk) (rv_row (enc := vBool) (pl := (boolRow A b' o').2) (fun _ => rfl) (fun _ => rfl) rfl hc')
    · obtain rfl : x = boolRow A b' o' := by simpa using hx
      exact lentA hb' h'
    · rw [hargs]
      exact ((((LR.nil _).cons (.slice (pl := (boolRow A b' o').2) rfl (.inl rfl))).cons (.int _ _)).cons (.int _ _)).cons .sliceNil
  · refine run12 (l := [itemRow L b o]) (fun x hx => ?_) (L := L) (a1 := i2) (a2 := i3) (A := []) (v := .slice (some ⟨0, 0, none⟩) L.length c) (u := .slice none 0 0) (by omega) ?_ (rv_row (enc := vGItem) (pl := (itemRow L b o).2) (fun _ => rfl) (fun _ => rfl) rfl hc) (.lnil fun k hk => by cases hk)
    · obtain rfl : x = itemRow L b o := by simpa using hx
      exact lentI hb h
    · rw [hargs]
      exact ((((LR.nil _).cons .sliceNil).cons (.int _ _)).cons (.int _ _)).cons (.slice (pl := (itemRow L b o).2) rfl (.inl rfl))
  · refine run12 (l := [itemRow L b o, boolRow A b' o']) (fun x hx => ?_) (L := L) (a1 := i2) (a2 := i3) (A := A) (v := .slice (some ⟨0, 0, none⟩) L.length c) (u := .slice (some ⟨1, 0, none⟩) A.length c') (by omega) ?_ (rv_row (enc := vGItem) (pl := (itemRow L b o).2) (fun _ => rfl) (fun _ => rfl) rfl hc) (rv_row (enc := vBool) (pl := (boolRow A b' o').2) (fun _ => rfl) (fun _ => rfl) rfl hc')
    · have : x = itemRow L b o ∨ x = boolRow A b' o' := by simpa using hx
      rcases this with rfl | rfl
      · exact lentI hb h
      · exact lentA hb' h'
    · rw [hargs]
      exact ((((LR.nil _).cons (.slice (pl := (boolRow A b' o').2) rfl (.inl rfl))).cons (.int _ _)).cons (.int _ _)).cons (.slice (pl := (itemRow L b o).2) rfl (.inl rfl))

end Go.Eng.Lift
