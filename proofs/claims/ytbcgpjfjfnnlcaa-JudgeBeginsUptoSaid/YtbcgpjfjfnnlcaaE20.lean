/-
  From a run of the abstract machine to what a statement asks of a law's call.
-/
import Derived.Test.YtbcgpjfjfnnlcaaE16
import Derived.Sort.Grow
import Derived.Sort.Row
import Derived.ProofKit
import Derived.OpenShut
import Derived.ReadAgain
namespace Go.Eng
noncomputable section
open Go.WideShapes Go.ChangeShapes

/-- all that was there reads as it did -/
def Kept (W W' : World) : Prop := (∀ r, r < W.heap.size → W'.heap[r]? = W.heap[r]?) ∧ W.heap.size ≤ W'.heap.size ∧ W'.os = W.os ∧ W'.output = W.output

theorem Kept.frame {W W' : World} (h : Kept W W') (may : MemPlace → Prop) : W.keptBut W' may := by
  refine ⟨h.2.2.1, h.2.2.2, fun i hi => ?_⟩
  have := (World.keptBut_refl W may).2.2 i hi
  rw [h.1 i hi]
  exact this

theorem Kept.frozen {W W' : World} (h : Kept W W') (a : Addr) (ha : a.block < W.heap.size) : W'.frozen? a = W.frozen? a := by
  unfold World.frozen?
  rw [h.1 _ ha]

theorem post_of_kept {H : Type} {enc : TypeId × Value → H} {P : Program} {f : Func} {s : ChangeSpec} {apart fresh handsOn again : Bool} {W W' : World} {args : Array Value} {v : Value} {ds gs : List (DataW H)} {before pa pv : List MemPlace}
    (hW : DataW.Whole enc P f.params.toList s.vars apart W args.toList ds gs before)
    (hres : ∀ (b : Nat) (sp : Nat → Bool) (hd : Bool), DataW.TrodAll enc P W' b sp hd f.resultTypes.toList (v.resultList f.resultTypes.size) (s.fn H (ds ++ gs)).results [])
    (hargs : ∀ sp : Nat → Bool, (∀ p ∈ before, sp p.block = true) → DataW.TrodAll enc P W' 0 sp true f.params.toList args.toList (s.fn H (ds ++ gs)).args pa)
    (hvars : ∀ sp : Nat → Bool, (∀ p ∈ before, sp p.block = true) → DataW.TrodVars enc P W' sp s.vars (s.fn H (ds ++ gs)).vars pv)
    (hps : before = pa ++ pv) (hk : Kept W W')
    (hok : ∀ (j : Nat) (t : TypeId) (r : Value), f.resultTypes[j]? = some t → (v.resultList f.resultTypes.size)[j]? = some r → Value.okWide P W' .any 0 t r) :
    s.post enc P f apart fresh handsOn again W args v W' := by
  have hold : ∀ p ∈ before, (fun b => decide (b < W.heap.size)) p.block = true := fun p hp => by simpa using hW.lt p hp
  refine ⟨ds, gs, before, [], pa, pv, hW, hres _ _ _, hargs _ hold, hvars _ hold, World.keptBut_mono (fun p hp => ⟨hp, ?_⟩) (hk.frame (· ∈ before)), fun _ => ?_⟩
  · rw [hps, List.mem_append] at hp
    exact Or.inr hp
  · have hlt := fun p hp => hW.lt p hp
    obtain ⟨_, _, _, _, _, hz, hn⟩ := hW
    refine ⟨hok, _, _, ([] ++ pa) ++ pv, ⟨[] ++ pa, pv, trodAll_append (hargs _ (fun _ _ => rfl)) (hres _ _ _), hvars _ (fun _ _ => rfl), rfl, ?_, ?_⟩, ?_⟩
    · intro b off hp
      have hb : MemPlace.cell b off ∈ before := by rw [hps]; simpa using hp
      rw [hk.frozen _ (hlt _ hb)]
      exact hz b off hb
    · intro ha
      have := hn ha
      rw [hps] at this
      simpa using this
    · intro p hp _
      rw [hps]
      simpa using hp

end
end Go.Eng
/-
  More fuel changes no answer of the abstract machine.
-/
set_option linter.unusedSimpArgs false
namespace Go.Eng
noncomputable section
variable {P : Program}

/-- whatever the one answers, the other answers too -/
def RLe (rec rec' : Rec) : Prop := ∀ q H x, rec q H = .ok x → rec' q H = .ok x

theorem bmono {α β : Type} {x x' : R α} {f f' : α → R β} {y : β} (h : (x >>= f) = .ok y) (h1 : ∀ a, x = .ok a → x' = .ok a) (h2 : ∀ a, f a = .ok y → f' a = .ok y) : (x' >>= f') = .ok y := by
  obtain ⟨a, e1, e2⟩ := bok h
  rw [h1 a e1]
  exact h2 a e2

theorem aOp_mono {rec rec' : Rec} (hr : RLe rec rec') {a : AAct} {H : AH} {o : Oper} {x : Value × AH} (h : aOp P rec a H o = .ok x) : aOp P rec' a H o = .ok x := by
  obtain ⟨d, op, ty, ps, af, gu⟩ := o
  cases op <;> first | exact h | skip
  case makeFunc fn first cap => cases fn <;> exact h
  case makeMap t x => cases x <;> exact h
  rename_i c
  obtain ⟨cal, args, ats⟩ := c
  cases cal with
  | builtin b => cases b <;> exact h
  | invoke rcv name =>
    simp only [aOp] at h ⊢
    refine bmono h (fun _ e => e) (fun vs h => bmono h (fun _ e => e) (fun v h => ?_))
    split at h
    · refine bmono h (fun _ e => e) (fun f h => bmono h (fun a e => hr _ _ _ e) (fun r h => h))
    · cases h
  | value f =>
    simp only [aOp] at h ⊢
    refine bmono h (fun _ e => e) (fun vs h => bmono h (fun _ e => e) (fun v h => ?_))
    split at h
    · exact bmono h (fun a e => hr _ _ _ e) (fun r h => h)
    · split at h
      · split at h
        · cases h
        · rename_i hlen
          rw [if_neg hlen]
          split at h
          · refine bmono h (fun _ e => e) (fun act h => bmono h (fun a e => hr _ _ _ e) (fun r h => ?_))
            split at h
            · split at h
              · split at h
                · cases h
                · rename_i hst
                  rw [if_neg hst]
                  exact bmono h (fun a e => hr _ _ _ e) (fun r h => h)
              · cases h
            · cases h
          · cases h
      · cases h
    · cases h

theorem aOps_mono {rec rec' : Rec} (hr : RLe rec rec') {rnd : Option Nat} {all : List Oper} : ∀ (os : List Oper) (a : AAct) (H : AH) (x : AAct × AH), aOps P rec rnd all os a H = .ok x → aOps P rec' rnd all os a H = .ok x
  | [], _, _, _, h => h
  | o :: os, a, H, x, h => by
    simp only [aOps] at h ⊢
    refine bmono h (fun _ e => e) (fun b h => ?_)
    cases b with
    | true =>
      simp only [if_true] at h ⊢
      cases hd : deferOf o.op with
      | some c =>
        simp only [hd] at h ⊢
        split at h
        · cases h
        · rename_i hb
          rw [if_neg hb]
          exact bmono h (fun _ e => e) (fun d h => bmono h (fun _ e => e) (fun a1 h => aOps_mono hr os _ _ _ h))
      | none =>
        simp only [hd] at h ⊢
        exact bmono h (fun r e => aOp_mono hr e) (fun r h => bmono h (fun _ e => e) (fun a1 h => aOps_mono hr os _ _ _ h))
    | false =>
      simp only [Bool.false_eq_true, if_false] at h ⊢
      exact bmono h (fun _ e => e) (fun a1 h => aOps_mono hr os _ _ _ h)

theorem aDo_mono {rec rec' : Rec} (hr : RLe rec rec') {os : List Oper} {a : AAct} {H : AH} {o : Oper} {x : Value × AH} (h : aDo P rec os a H o = .ok x) : aDo P rec' os a H o = .ok x := by
  unfold aDo at h ⊢
  refine bmono h (fun _ e => e) (fun b h => ?_)
  cases b with
  | true => exact aOp_mono hr h
  | false => exact h

theorem sameBack_mono {rec rec' : Rec} (hr : RLe rec rec') {os : List Oper} {pn : List Pend} {a : AAct} {o : Oper} {v : Value} {c : Nat} : ∀ l : List (Nat × PM), sameBack P rec os pn a o v c l = true → sameBack P rec' os pn a o v c l = true
  | [], h => h
  | (j, H) :: l, h => by
    simp only [sameBack] at h ⊢
    split at h
    · rename_i hb; rw [if_pos hb]
    · rename_i hb
      rw [if_neg hb]
      rw [Bool.and_eq_true] at h ⊢
      refine ⟨?_, sameBack_mono hr l h.2⟩
      have h1 := h.1
      split at h1
      · rename_i u H1 hd
        rw [aDo_mono hr hd]
        exact h1
      · cases h1

theorem dStep_mono {rec rec' : Rec} (hr : RLe rec rec') {os : List Oper} {cl : List Nat} {s s' : DS} {j : Nat} (h : dStep P rec os cl s j = .ok s') : dStep P rec' os cl s j = .ok s' := by
  unfold dStep at h ⊢
  split at h
  · cases h
  · split at h
    · cases h
    rename_i h1
    rw [if_neg h1]
    split at h
    · cases h
    rename_i h2
    rw [if_neg h2]
    split at h
    · exact h
    · cases h
    refine bmono h (fun r e => aDo_mono hr e) (fun r h => bmono h (fun _ e => e) (fun a1 h => ?_))
    split at h
    · rename_i hp
      rw [if_pos hp]
      exact h
    · rename_i hp
      rw [if_neg hp]
      split at h
      · rename_i hq
        rw [if_pos hq]
        split at h
        · rename_i hs
          rw [if_pos (sameBack_mono hr _ hs)]
          exact h
        · cases h
      · rename_i hq
        rw [if_neg hq]
        exact h

theorem foldlM_mono {α β : Type} {f g : α → β → R α} (hfg : ∀ a b c, f a b = .ok c → g a b = .ok c) : ∀ (l : List β) (s s' : α), l.foldlM f s = .ok s' → l.foldlM g s = .ok s'
  | [], _, _, h => h
  | x :: l, s, s', h => by
    simp only [List.foldlM_cons] at h ⊢
    exact bmono h (fun a e => hfg _ _ _ e) (fun a h => foldlM_mono hfg l a s' h)

theorem aDraw_mono {rec rec' : Rec} (hr : RLe rec rec') {os : List Oper} {a : AAct} {H : AH} {x : AAct × AH} (h : aDraw P rec os a H = .ok x) : aDraw P rec' os a H = .ok x := by
  unfold aDraw at h ⊢
  simp only at h ⊢
  split at h
  · rename_i ht
    rw [if_pos ht]
    exact bmono h (fun s e => foldlM_mono (fun _ _ _ e => dStep_mono hr e) _ _ _ e) (fun s h => h)
  · cases h

theorem aLeave_mono {rec rec' : Rec} (hr : RLe rec rec') : ∀ (ms : List ADef) (H H1 : AH), aLeave P rec ms H = .ok H1 → aLeave P rec' ms H = .ok H1
  | [], _, _, h => h
  | .mark m :: ms, H, H1, h => by
    simp only [aLeave] at h ⊢
    split at h
    · exact aLeave_mono hr ms _ _ h
    · cases h
  | .call f args :: ms, H, H1, h => by
    simp only [aLeave] at h ⊢
    refine bmono h (fun _ e => e) (fun b h => bmono h (fun r e => hr _ _ _ e) (fun r h => ?_))
    split at h
    · split at h
      · rename_i hm
        rw [if_pos hm]
        exact bmono h (fun _ e => e) (fun _ h => aLeave_mono hr ms _ _ h)
      · cases h
    · split at h
      · rename_i hm
        rw [if_pos hm]
        exact bmono h (fun _ e => e) (fun _ h => aLeave_mono hr ms _ _ h)
      · cases h
    · cases h

theorem aStep_mono {rec rec' : Rec} (hr : RLe rec rec') : RLe (aStep P rec) (aStep P rec') := by
  intro q H x h
  cases q with
  | call f args =>
    simp only [aStep] at h ⊢
    refine bmono h (fun _ e => e) (fun b h => bmono h (fun r e => hr _ _ _ e) (fun r h => ?_))
    split at h
    · exact bmono h (fun H e => aLeave_mono hr _ _ _ e) (fun _ h => h)
    · exact bmono h (fun H e => aLeave_mono hr _ _ _ e) (fun _ h => h)
    · cases h
  | code rnd c a =>
    cases c with
    | skip => exact h
    | label l => exact h
    | ret => exact h
    | exit id => exact h
    | goto l => exact h
    | seq c1 c2 =>
      simp only [aStep] at h ⊢
      refine bmono h (fun r e => hr _ _ _ e) (fun r h => ?_)
      obtain ⟨res, H1⟩ := r
      cases res with
      | val v => exact h
      | out x1 a1 =>
        cases x1 with
        | normal => exact hr _ _ _ h
        | exit id => exact h
        | goto l => exact h
        | ret => exact h
    | cond o c1 c2 =>
      simp only [aStep] at h ⊢
      refine bmono h (fun _ e => e) (fun v h => ?_)
      split at h
      · exact hr _ _ _ h
      · cases h
    | block id c1 =>
      simp only [aStep] at h ⊢
      exact bmono h (fun r e => hr _ _ _ e) (fun r h => h)
    | loop c1 =>
      simp only [aStep] at h ⊢
      refine bmono h (fun r e => hr _ _ _ e) (fun r h => ?_)
      obtain ⟨res, H1⟩ := r
      cases res with
      | val v => exact h
      | out x1 a1 =>
        cases x1 with
        | normal => exact hr _ _ _ h
        | exit id => exact h
        | goto l => exact h
        | ret => exact h
    | region id ops draw =>
      cases draw with
      | false =>
        simp only [aStep] at h ⊢
        exact bmono h (fun r e => aOps_mono hr _ _ _ _ e) (fun r h => h)
      | true =>
        simp only [aStep] at h ⊢
        split at h
        · cases h
        rename_i hf
        rw [if_neg hf]
        exact bmono h (fun r e => aDraw_mono hr e) (fun r h => h)
    | rangeFunc g params assign body =>
      simp only [aStep] at h ⊢
      refine bmono h (fun _ e => e) (fun m h => bmono h (fun _ e => e) (fun l h => bmono h (fun _ e => e) (fun gv h => ?_)))
      split at h
      · refine bmono h (fun r e => hr _ _ _ e) (fun r h => ?_)
        split at h
        · split at h
          · split at h
            · cases h
            · rename_i hb
              rw [if_neg hb]
              split at h
              · exact h
              · exact hr _ _ _ h
          · cases h
        · cases h
      · cases h
    | _ => simp only [aStep] at h; cases h

end
end Go.Eng
/-
  Laws with arguments: the caller's rows as the abstract machine's first memory; what the caller has reads as it did.
-/
namespace Go.Eng
noncomputable section
variable {P : Program}

/-! ### The first memory -/
def heapOf : Nat → List (Row × Pl) → AH → AH
  | _, [], H => H
  | k, (r, _) :: l, H => heapOf (k + 1) l ⟨T.put (Nat.succ k) H.objs k (.row r), k + 1⟩

def rhoOf (l : List (Row × Pl)) : Ren := fun i => (l[i]?).map (·.2)

theorem heapOf_get : ∀ (l : List (Row × Pl)) (k : Nat) (H : AH), ∀ j, (heapOf k l H).get j = if k ≤ j ∧ j < k + l.length then (l[j - k]?).map (fun x => AO.row x.1) else H.get j
  | [], k, H, j => by rw [if_neg (by simp)]; rfl
  | (r, pl) :: l, k, H, j => by
    rw [heapOf, heapOf_get l (k + 1) _ j]
    have hp : (⟨T.put (Nat.succ k) H.objs k (.row r), k + 1⟩ : AH).get j = if j = k then some (.row r) else H.get j := T.get_put' _ _ _ _
    simp only [List.length_cons]
    by_cases h1 : k + 1 ≤ j ∧ j < k + 1 + l.length
    · rw [if_pos h1, if_pos (by omega)]
      obtain ⟨d, rfl⟩ : ∃ d, j = k + 1 + d := ⟨j - (k + 1), by omega⟩
      rw [show k + 1 + d - (k + 1) = d by omega, show k + 1 + d - k = d + 1 by omega]
      simp
    · rw [if_neg h1, hp]
      by_cases e : j = k
      · subst e
        rw [if_pos rfl, if_pos (by omega)]
        simp
      · rw [if_neg e, if_neg (by omega)]

theorem heapOf_next : ∀ (l : List (Row × Pl)) (k : Nat) (H : AH), H.next = k → (heapOf k l H).next = k + l.length
  | [], k, H, h => h
  | (r, pl) :: l, k, H, h => by
    rw [heapOf, heapOf_next l (k + 1) _ rfl]
    simp only [List.length_cons]
    omega

/-- what a caller's row is for the abstract machine -/
structure Lent (ρ : Ren) (W : World) (r : Row) (pl : Pl) : Prop where
  ro : r.ro = true
  fam : r.fam = 0
  disp : r.disp = pl.base
  solo : r.solo = false
  lt : pl.blk < W.heap.size
  or : OR ρ W pl (.row r)

def firstOf (l : List (Row × Pl)) : AH := heapOf 0 l AH.empty

theorem firstOf_get {l : List (Row × Pl)} (j : Nat) : (firstOf l).get j = (l[j]?).map (fun x => AO.row x.1) := by
  unfold firstOf
  rw [heapOf_get l 0 _ j]
  by_cases h1 : j < l.length
  · rw [if_pos (by omega)]; simp
  · rw [if_neg (by omega), List.getElem?_eq_none (by omega)]; rfl

theorem rel_first {W : World} {l : List (Row × Pl)} (h : ∀ x ∈ l, Lent (rhoOf l) W x.1 x.2) : Rel (rhoOf l) (firstOf l) W := by
  have hnext : (firstOf l).next = l.length := by unfold firstOf; rw [heapOf_next l 0 _ rfl]; omega
  have get : ∀ j o, (firstOf l).get j = some o → ∃ x ∈ l, l[j]? = some x ∧ o = .row x.1 ∧ rhoOf l j = some x.2 := fun j o hj => by
    rw [firstOf_get] at hj
    cases hx : l[j]? with
    | none => rw [hx] at hj; cases hj
    | some x =>
      rw [hx] at hj
      cases hj
      exact ⟨x, List.mem_of_getElem? hx, rfl, rfl, by unfold rhoOf; rw [hx]; rfl⟩
  refine ⟨fun id pl hp => ?_, trivial, fun id o ho => ?_, fun i j oi oj pi pj hi hj _ hpi hpj hb => ?_⟩
  · rw [hnext]
    unfold rhoOf at hp
    rcases Nat.lt_or_ge id l.length with h' | h'
    · exact h'
    · rw [List.getElem?_eq_none h'] at hp; cases hp
  · obtain ⟨x, hx, _, rfl, hr⟩ := get id o ho
    exact ⟨x.2, hr, (h x hx).lt, (h x hx).or⟩
  · obtain ⟨x, hx, _, rfl, hr⟩ := get i oi hi
    obtain ⟨y, hy, _, rfl, hs⟩ := get j oj hj
    rw [hr] at hpi; cases hpi
    rw [hs] at hpj; cases hpj
    have a := h x hx
    have b := h y hy
    exact ⟨x.1, y.1, rfl, rfl, by rw [a.fam, b.fam], by rw [a.disp, b.disp]; omega, a.solo, b.solo⟩

/-! ### What the caller has reads as it did -/
theorem Kept.same {W W' : World} (h : Kept W W') {p : MemPlace} (hp : p.block < W.heap.size) : W.sameAt W' p := by
  cases p with
  | cell b off => exact cell_congr (h.1 b hp)
  | map b => exact h.1 b hp

theorem trodAll_kept {H : Type} {enc : TypeId × Value → H} {W W' : World} (hk : Kept W W') {b : Nat} {sp : Nat → Bool} {hd : Bool} : ∀ {ts : List TypeId} {vs : List Value} {ds : List (DataW H)} {ps : List MemPlace},
    DataW.TrodAll enc P W b sp hd ts vs ds ps → (∀ p ∈ ps, p.block < W.heap.size) → DataW.TrodAll enc P W' b sp hd ts vs ds ps
  | [], [], [], _, h, _ => h
  | _ :: _, _ :: _, _ :: _, _, ⟨p, q, ⟨n, h1⟩, h2, e⟩, hs =>
    ⟨p, q, ⟨n, DataW.trod_carry n _ _ _ h1 (fun x hx => hk.same (hs x (by rw [e]; exact List.mem_append_left _ hx)))⟩, trodAll_kept hk h2 (fun x hx => hs x (by rw [e]; exact List.mem_append_right _ hx)), e⟩

end
end Go.Eng
/-
  The abstract machine with answers that are known beforehand: a function without arguments that was run at the empty memory answers the same at any other one.
-/
namespace Go.Eng
noncomputable section
variable {P : Program}

/-! ### slices.Sort of ints, by what is known of it -/
/-- which functions' answers are known beforehand: of functions without arguments; of slices.Sort of ints -/
structure Orc where
  v : FuncId → Option Value
  s : FuncId → Bool

def intsOf : List Value → Option (List Int)
  | [] => some []
  | .int .i64 n :: l => (intsOf l).map (n :: ·)
  | _ :: _ => none

def srt (zs : List Int) : List Int := zs.mergeSort fun x y => decide (x ≤ y)

def sortAns (args : List Value) (H : AH) : R (Value × AH) :=
  match args with
  | [.slice _ 0 _] => .ok (.tuple #[], H)
  | [.slice (some ⟨id, off, none⟩) (n + 1) _] => do
    let r ← H.row id
    let vs ← takeK (r.cells.drop off) (n + 1)
    match intsOf vs with
    | some zs =>
      if zs.length < 4611686018427387904 then do
        let H1 ← H.write id off ((srt zs).map (Value.int .i64))
        .ok (.tuple #[], H1)
      else .error 901
    | none => .error 902
  | _ => .error 903

structure SortOK (P : Program) (f : FuncId) : Prop where
  body : ∃ fn c, P.funcs[f]? = some fn ∧ fn.body = some c ∧ (fn.name == "runtime.NumGoroutine") = false
  nil_ : ∀ (p : Option Addr) (c : Nat) (w : World), Calls P f #[.slice p 0 c] w fun e w' => e = .returned (.tuple #[]) ∧ w' = w
  row_ : ∀ (blk off cap : Nat) (zs : List Int) (w : World), Sort.Holds (Value.int .i64) w blk off zs.toArray → blk < w.heap.size → zs.length < 4611686018427387904 →
    Calls P f #[.slice (some ⟨blk, off, none⟩) zs.length cap] w fun e w' => e = .returned (.tuple #[]) ∧ ∃ n os, w' = Sort.grow (Sort.putRow (Value.int .i64) (Sort.ahead w n) blk off (srt zs).toArray) os

theorem intsOf_some : ∀ {l : List Value} {zs : List Int}, intsOf l = some zs → l = zs.map (Value.int .i64)
  | [], zs, h => by cases h; rfl
  | x :: l, zs, h => by
    unfold intsOf at h
    split at h
    · cases h; rename_i h; cases h
    · rename_i n l' e
      cases e
      cases hl : intsOf l with
      | none => rw [hl] at h; cases h
      | some ys => rw [hl] at h; cases h; rw [intsOf_some hl]; rfl
    · cases h
theorem srt_len (zs : List Int) : (srt zs).length = zs.length := List.length_mergeSort zs

def setAll (c : Array Value) : Nat → List Value → Array Value
  | _, [] => c
  | o, v :: vs => setAll (c.setIfInBounds o v) (o + 1) vs
theorem setAll_get : ∀ (vs : List Value) (c : Array Value) (o x : Nat), (setAll c o vs)[x]? = if o ≤ x ∧ x < o + vs.length ∧ x < c.size then vs[x - o]? else c[x]?
  | [], c, o, x => by rw [if_neg (by simp; omega)]; rfl
  | v :: vs, c, o, x => by
    show (setAll (c.setIfInBounds o v) (o + 1) vs)[x]? = _
    rw [setAll_get vs]
    simp only [List.length_cons, Array.size_setIfInBounds, Array.getElem?_setIfInBounds]
    by_cases hx : x = o
    · subst hx
      rw [if_neg (by omega), if_pos rfl]
      by_cases hs : x < c.size
      · rw [if_pos hs, if_pos (by omega), Nat.sub_self]; rfl
      · rw [if_neg hs, if_neg (by omega)]; simp; omega
    · by_cases h2 : o + 1 ≤ x ∧ x < o + 1 + vs.length ∧ x < c.size
      · rw [if_pos h2, if_pos (by omega), show x - o = (x - (o + 1)) + 1 by omega]; rfl
      · rw [if_neg h2, if_neg (by omega), if_neg (by omega)]
theorem puts_blk : ∀ (vs : List Value) (W : World) (b o : Nat), (puts W b o vs).heap[b]? = (W.heap[b]?).map (fun x => match x with | .cells c t f => .cells (setAll c o vs) t f | y => y)
  | [], W, b, o => by
    show W.heap[b]? = _
    cases W.heap[b]? with
    | none => rfl
    | some x => cases x <;> rfl
  | v :: vs, W, b, o => by
    show (puts (W.setCell ⟨b, o, none⟩ v) b (o + 1) vs).heap[b]? = _
    rw [puts_blk vs]
    simp only [World.setCell, Array.getElem?_modify, if_true]
    cases W.heap[b]? with
    | none => rfl
    | some x => cases x <;> rfl
theorem putRow_heap (w : World) (b o : Nat) (zs : List Int) : (Sort.putRow (Value.int .i64) w b o zs.toArray).heap = (puts w b o (zs.map (Value.int .i64))).heap := by
  apply Array.ext_getElem?
  intro k
  unfold Sort.putRow Sort.mapBlock
  simp only [Array.getElem?_modify]
  by_cases hk : b = k
  · subst hk
    rw [if_pos rfl, puts_blk]
    cases w.heap[b]? with
    | none => rfl
    | some x =>
      cases x with
      | cells c t f =>
        show some (Obj.cells (Sort.putCells (Value.int .i64) o zs.toArray c) t f) = some (Obj.cells (setAll c o (zs.map (Value.int .i64))) t f)
        congr 2
        apply Array.ext_getElem?
        intro i
        rw [setAll_get]
        unfold Sort.putCells
        rw [Array.getElem?_mapIdx, List.length_map]
        simp only [List.size_toArray]
        by_cases hi : i < c.size
        · rw [Array.getElem?_eq_getElem hi, Option.map_some]
          by_cases h2 : o ≤ i ∧ i < o + zs.length
          · rw [if_pos h2, if_pos ⟨h2.1, h2.2, hi⟩, List.getElem?_map, List.getElem?_eq_getElem (show i - o < zs.length by omega), Option.map_some]
            congr 2
            rw [getElem!_pos zs.toArray (i - o) (by simp; omega)]
            simp
          · rw [if_neg h2, if_neg (by omega)]
        · rw [if_neg (by omega), Array.getElem?_eq_none (by omega)]
          rfl
      | _ => rfl
  · rw [if_neg hk, puts_other _ _ _ _ _ (Ne.symm hk)]

theorem St.grown {ρ : Ren} {H : AH} {W : World} (h : Rel ρ H W) (os : Array Obj) : St ρ H W ρ H (Sort.grow W os) := by
  have hg : ∀ b, b < W.heap.size → (Sort.grow W os).heap[b]? = W.heap[b]? := fun b hb => by
    show (W.heap ++ os)[b]? = _
    rw [Array.getElem?_append_left hb]
  refine ⟨Ren.le_refl ρ, ⟨h.dom, h.nxt, fun id o ho => ?_, h.share⟩, Nat.le_refl _, by show W.heap.size ≤ (W.heap ++ os).size; rw [Array.size_append]; omega, fun b hb hn => ⟨hg b hb, hn⟩, rfl, rfl, rfl, fun _ _ => rfl, fun _ _ hb => hb⟩
  obtain ⟨pl, a, b, c⟩ := h.obj id o ho
  exact ⟨pl, a, by show pl.blk < (W.heap ++ os).size; rw [Array.size_append]; omega, c.congr (Ren.le_refl ρ) (hg _ b)⟩

theorem told_sort {f : FuncId} (hs : SortOK P f) {args : List Value} {H H' : AH} {v : Value} (h : sortAns args H = .ok (v, H')) (ρ : Ren) (W : World) (args' : List Value) (n : Nat) (hR : Rel ρ H W) (hl : LR ρ args args') :
    CallsIn (WF none) n P f args'.toArray W (CallPost ρ H W v H') := by
  refine callsIn_wide.2 ?_
  unfold sortAns at h
  split at h
  · rename_i p c
    cases h
    obtain ⟨x, hx⟩ : ∃ x, args' = [x] := by
      have := hl.1
      cases args' with
      | nil => simp at this
      | cons x l => cases l with | nil => exact ⟨x, rfl⟩ | cons y l => simp at this
    subst hx
    have hv := hl.2 0 _ _ rfl rfl
    obtain ⟨p', c', rfl⟩ : ∃ p' c', x = .slice p' 0 c' := by cases hv <;> exact ⟨_, _, rfl⟩
    exact (hs.nil_ p' c' W).mono fun e W' ⟨he, hw⟩ => ⟨ρ, .tuple #[], he, by rw [hw]; exact St.refl hR, gnd_refl gd (by rfl)⟩
  · rename_i id off k c
    obtain ⟨r, h1, h⟩ := bok h
    obtain ⟨vs, h2, h⟩ := bok h
    cases hz : intsOf vs with
    | none => rw [hz] at h; cases h
    | some zs =>
      rw [hz] at h
      dsimp only at h
      split at h
      · rename_i hlen
        obtain ⟨H1, h3, h⟩ := bok h
        cases h
        obtain ⟨x, hx⟩ : ∃ x, args' = [x] := by
          have := hl.1
          cases args' with
          | nil => simp at this
          | cons x l => cases l with | nil => exact ⟨x, rfl⟩ | cons y l => simp at this
        subst hx
        have hv := hl.2 0 _ _ rfl rfl
        obtain ⟨pl, c', hp, rfl⟩ : ∃ pl c', ρ id = some pl ∧ x = .slice (some ⟨pl.blk, pl.base + off, none⟩) (k + 1) c' := by
          cases hv
          exact ⟨_, _, by assumption, rfl⟩
        have hr := AH.row_ok h1
        obtain ⟨pl', hp', hlt, hor⟩ := hR.obj id _ hr
        rw [hp] at hp'; cases hp'
        have hvs := intsOf_some hz
        obtain ⟨t1, t2⟩ := takeK_ok h2
        have hzl : zs.length = k + 1 := by rw [hvs, List.length_map] at t1; exact t1
        have hro : r.ro = false := by
          unfold AH.write at h3
          rw [h1] at h3
          simp only [bind, Except.bind] at h3
          split at h3
          · cases h3
          · rename_i hro; simpa using hro
        have hcell : ∀ j, j < zs.length → W.cell? ⟨pl.blk, pl.base + off + j, none⟩ = some (.int .i64 (zs[j]!)) ∧ W.frozen? ⟨pl.blk, pl.base + off + j, none⟩ = false := fun j hj => by
          have e1 := t2 j (by omega)
          rw [List.getElem?_drop, hvs, List.getElem?_map, List.getElem?_eq_getElem hj, Option.map_some] at e1
          have hlt' : off + j < r.cells.length := (List.getElem?_eq_some_iff.1 e1).1
          obtain ⟨u, g1, g2, g3⟩ := hor.2.2.1 (off + j) (by have := hor.2.1; omega)
          rw [show pl.base + off + j = pl.base + (off + j) by omega]
          have := (g2 _ e1).int_inv
          rw [g1, this, getElem!_pos zs j hj]
          exact ⟨rfl, fz_frozen (g3 hro)⟩
        have hcalls := hs.row_ pl.blk (pl.base + off) c' zs W (fun j hj => by
          have hj' : j < zs.length := by simpa using hj
          obtain ⟨a, b⟩ := hcell j hj'
          refine ⟨?_, b⟩
          rw [a, getElem!_pos zs.toArray j (by simpa using hj'), getElem!_pos zs j hj']
          simp) hlt hlen
        rw [hzl] at hcalls
        refine hcalls.mono fun e W' ⟨he, m, os, hw⟩ => ?_
        have hlr : LR ρ ((srt zs).map (Value.int .i64)) ((srt zs).map (Value.int .i64)) := gnd_list (n := gd) (by rw [List.all_eq_true]; intro y hy; obtain ⟨z, _, rfl⟩ := List.mem_map.1 hy; rfl)
        obtain ⟨W1, hrun, st⟩ := St.write (P := P) hR h3 hp hlr
        have hthere : ∀ k, k < ((srt zs).map (Value.int .i64)).length → (∃ u, W.cell? ⟨pl.blk, pl.base + off + 0 + k, none⟩ = some u) ∧ W.frozen? ⟨pl.blk, pl.base + off + 0 + k, none⟩ = false := fun k hk => by
          rw [List.length_map, srt_len] at hk
          obtain ⟨a, b⟩ := hcell k hk
          exact ⟨⟨_, a⟩, b⟩
        have hW1 : W1 = puts W pl.blk (pl.base + off) ((srt zs).map (Value.int .i64)) := by
          have := run_storeCells' (P := P) ((srt zs).map (Value.int .i64)) W pl.blk (pl.base + off) 0 (fun v hv => by obtain ⟨z, _, rfl⟩ := List.mem_map.1 hv; rfl) hthere
          rw [Nat.add_zero] at this
          have := hrun.symm.trans this
          cases this
          rfl
        refine ⟨ρ, .tuple #[], he, ?_, gnd_refl gd (by rfl)⟩
        rw [hw]
        refine st.trans (St.trans (St.drawn st.rel (W' := Sort.putRow (Value.int .i64) (Sort.ahead W m) pl.blk (pl.base + off) (srt zs).toArray) ?_ ?_ ?_ ?_) (St.grown ?_ os))
        · rw [hW1]
          exact putRow_heap W pl.blk (pl.base + off) (srt zs)
        · rw [hW1]; exact (puts_tape _ W _ _).1.symm
        · rw [hW1]; exact (puts_tape _ W _ _).2.1.symm
        · rw [hW1]; exact (puts_tape _ W _ _).2.2.1.symm
        · refine Rel.drawn st.rel ?_
          rw [hW1]
          exact putRow_heap W pl.blk (pl.base + off) (srt zs)
      · cases h
  · cases h

/-- the answer known beforehand -/
def known (O : Orc) (f : FuncId) (args : List Value) : Option Value :=
  match O.s f with
  | true => some (.bool false)
  | false =>
    match args with
    | [] => O.v f
    | _ :: _ => none

def oRun (P : Program) (O : Orc) : Nat → Rec
  | 0, _, _ => .error 0
  | n + 1, .call f args, H =>
    match known O f args with
    | some v =>
      match O.s f with
      | true => (sortAns args H).map fun x => (.val x.1, x.2)
      | false => .ok (.val v, H)
    | none => aStep P (oRun P O n) (.call f args) H
  | n + 1, .code r c a, H => aStep P (oRun P O n) (.code r c a) H

theorem oRun_mono {O : Orc} : ∀ n, RLe (oRun P O n) (oRun P O (n + 1))
  | 0 => fun q H x h => by simp only [oRun] at h; cases h
  | n + 1 => fun q H x h => by
    cases q with
    | call f args =>
      simp only [oRun] at h ⊢
      cases hk : known O f args with
      | some v => rw [hk] at h; exact h
      | none => rw [hk] at h; exact aStep_mono (oRun_mono n) _ _ _ h
    | code r c a => exact aStep_mono (oRun_mono n) _ _ _ h

theorem oRun_le {O : Orc} {n m : Nat} (h : n ≤ m) : RLe (oRun P O n) (oRun P O m) := by
  induction h with
  | refl => exact fun q H x h => h
  | step _ ih => exact fun q H x h => oRun_mono _ q H x (ih q H x h)

/-- an answer that a run at the empty memory tells -/
structure Told (P : Program) (O : Orc) : Prop where
  v : ∀ f v, O.v f = some v → gnd gd v = true ∧ ∃ n H', aRun P n (.call f []) AH.empty = .ok (.val v, H')
  s : ∀ f, O.s f = true → SortOK P f

theorem told_call {O : Orc} (hO : Told P O) {f : FuncId} {v : Value} (hf : O.v f = some v) :
    (∃ fn c, P.funcs[f]? = some fn ∧ fn.body = some c ∧ (fn.name == "runtime.NumGoroutine") = false) ∧
    ∀ (ρ : Ren) (H : AH) (W : World) (args' : List Value) (n : Nat), Rel ρ H W → LR ρ [] args' → CallsIn (WF none) n P f args'.toArray W (CallPost ρ H W v H) := by
  obtain ⟨hg, n0, H0, h0⟩ := hO.v f v hf
  obtain ⟨k1, k2⟩ := (aRun_ok (P := P) n0).call f [] AH.empty v H0 h0
  refine ⟨k1, fun ρ H W args' n hR hl => ?_⟩
  have he : args' = [] := by
    have := hl.1
    cases args' with
    | nil => rfl
    | cons x l => simp at this
  subst he
  refine CallsIn.mono (k2 (fun _ => none) W [] n (Rel.empty W) (LR.nil _)) (fun e W' hp => ?_)
  obtain ⟨ρ', v', rfl, st, hv⟩ := hp
  have hv' : v' = v := gnd_eq _ hg hv
  subst hv'
  have same : ∀ b, b < W.heap.size → W'.heap[b]? = W.heap[b]? := fun b hb => (st.keep b hb (fun ⟨id, o, pl, h, _⟩ => by cases h)).1
  refine ⟨ρ, v', rfl, ⟨Ren.le_refl ρ, ⟨hR.dom, hR.nxt, fun id o ho => ?_, hR.share⟩, Nat.le_refl _, st.size, fun b hb hn => ⟨same b hb, hn⟩, st.tape, st.os, st.output, fun _ _ => rfl, fun _ _ hb => hb⟩, gnd_refl _ hg⟩
  obtain ⟨pl, a, b, c⟩ := hR.obj id o ho
  exact ⟨pl, a, Nat.lt_of_lt_of_le b st.size, c.congr (Ren.le_refl ρ) (same _ b)⟩

theorem oRun_ok {O : Orc} (hO : Told P O) : ∀ n, RecOK2 P (oRun P O n)
  | 0 => ⟨⟨fun f args H v H' h => (by simp only [oRun] at h; cases h), fun r c a H x a' H' h => (by simp only [oRun] at h; cases h), fun f args H x a H' h => (by simp only [oRun] at h; cases h), fun r c a H v H' h => (by simp only [oRun] at h; cases h)⟩,
      fun r c a H x a' H' h => (by simp only [oRun] at h; cases h)⟩
  | n + 1 =>
    have ih := oRun_ok hO n
    ⟨⟨fun f args H v H' h => by
        simp only [oRun] at h
        cases hk : known O f args with
        | some u =>
          rw [hk] at h
          cases hs : O.s f with
          | true =>
            rw [hs] at h
            cases hz : sortAns args H with
            | error e => rw [hz] at h; cases h
            | ok x =>
              rw [hz] at h
              cases h
              exact ⟨(hO.s f hs).body, fun ρ W args' n hR hl => told_sort (hO.s f hs) hz ρ W args' n hR hl⟩
          | false =>
            rw [hs] at h
            cases h
            unfold known at hk
            rw [hs] at hk
            cases args with
            | nil =>
              obtain ⟨k1, k2⟩ := told_call hO hk
              exact ⟨k1, fun ρ W args' n hR hl => k2 ρ H W args' n hR hl⟩
            | cons x l => cases hk
        | none => rw [hk] at h; exact step_call ih.toRecOK h,
      fun _ _ _ _ _ _ _ h => (step_code ih h).1,
      fun f args H x a H' h => by
        simp only [oRun] at h
        cases hk : known O f args with
        | some u =>
          rw [hk] at h
          cases hs : O.s f with
          | true =>
            rw [hs] at h
            cases hz : sortAns args H with
            | error e => rw [hz] at h; cases h
            | ok x => rw [hz] at h; cases h
          | false => rw [hs] at h; cases h
        | none => rw [hk] at h; exact step_callVal h,
      fun _ _ _ _ _ _ h => step_codeOut ih.toRecOK h⟩,
      fun _ _ _ _ _ _ _ h => (step_code ih h).2 _ rfl⟩

/-- **What the abstract machine tells of a law's call holds; nothing that was there has turned.** -/
theorem law_first_o {O : Orc} (hO : Told P O) {W : World} {l : List (Row × Pl)} (h : ∀ x ∈ l, Lent (rhoOf l) W x.1 x.2) {vs : List Value} {args : Array Value} (ha : LR (rhoOf l) vs args.toList) {n : Nat} {f : FuncId} {b : Bool} {H' : AH}
    (hrun : oRun P O n (.call f vs) (firstOf l) = .ok (.val (.bool b), H')) : Calls P f args W (fun e w' => e = .returned (.bool b) ∧ Kept W w') := by
  obtain ⟨_, hc⟩ := (oRun_ok hO n).call f vs (firstOf l) _ H' hrun
  have := hc (rhoOf l) W args.toList 0 (rel_first h) ha
  rw [show args.toList.toArray = args by simp] at this
  have h3 : Calls P f args W (CallPost (rhoOf l) (firstOf l) W (.bool b) H') := callsIn_wide.1 this
  intro cs
  obtain ⟨e, w', fr, r, s, x⟩ := h3 cs
  obtain ⟨ρ', v', rfl, st, hv⟩ := r
  rw [hv.bool_inv] at s x
  refine ⟨_, w', fr, ⟨rfl, fun r hr => (st.keep r hr ?_).1, st.size, st.os, st.output⟩, s, x⟩
  rintro ⟨id, o, pl, h1, h2, _⟩
  rw [firstOf_get] at h1
  cases hx : l[id]? with
  | none => rw [hx] at h1; cases h1
  | some y =>
    rw [hx] at h1
    cases h1
    simp [AO.rw, (h y (List.mem_of_getElem? hx)).ro] at h2

end
end Go.Eng
