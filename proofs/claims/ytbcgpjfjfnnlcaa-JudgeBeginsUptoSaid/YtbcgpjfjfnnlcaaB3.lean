/-
  What the caller hands in, with a measure of how much it is (the second form of a statement).
-/
import Derived.Test.YtbcgpjfjfnnlcaaB2
set_option linter.unusedVariables false
set_option linter.unusedSimpArgs false
namespace Go.Eng.Br
noncomputable section
variable {P : Program}

/-- a measure of data -/
structure Msr (b : (H : Type) → DataW H → Nat) : Prop where
  pos : ∀ {H : Type} (d : DataW H), 1 ≤ b H d
  slice : ∀ {H : Type} (l m : List (DataW H)), (l.map (b H)).sum + 1 ≤ b H (.slice l m)
  agg : ∀ {H : Type} (l : List (DataW H)), (l.map (b H)).sum + 1 ≤ b H (.agg l)
theorem sum_mem : ∀ {l : List Nat} {x : Nat}, x ∈ l → x ≤ l.sum
  | y :: l, x, h => by
    rw [List.sum_cons]
    rcases List.mem_cons.1 h with h | h
    · omega
    · have := sum_mem h; omega
theorem mapM_ix {α β : Type} {f : α → Option β} : ∀ {l : List α} {r : List β}, l.mapM f = some r → r.length = l.length ∧ ∀ (i : Nat) (x : α), l[i]? = some x → ∃ y, f x = some y ∧ r[i]? = some y
  | [], r, h => by
    simp only [List.mapM_nil, pure] at h
    cases h
    exact ⟨rfl, fun i x h => by simp at h⟩
  | z :: l, r, h => by
    simp only [List.mapM_cons, bind, Option.bind_eq_some_iff] at h
    obtain ⟨y, h1, ys, h2, h3⟩ := h
    cases h3
    obtain ⟨k1, k2⟩ := mapM_ix h2
    refine ⟨by simp [k1], fun i x hx => ?_⟩
    cases i with
    | zero => simp at hx; subst hx; exact ⟨y, h1, rfl⟩
    | succ i => exact k2 i x (by simpa using hx)

/-- values of a type, as the calculus has them -/
structure DecM (b : (H : Type) → DataW H → Nat) (P : Program) (t : TypeId) {α : Type} (c : α → List PV) (ok : α → Nat → Prop) : Prop where
  get : ∀ {H : Type} (enc : TypeId × Value → H) (W : World) (fuel : Nat) (cs : List Value) (x : DataW H × List MemPlace), DataW.trod enc P W 0 (fun _ => true) true fuel t cs = some x → (∀ a n k, Value.slice (some a) n k ∈ cs → 0 < W.heap.size) →
    ∃ y, (∀ m, b H x.1 ≤ m → ok y m) ∧ (c y).all PV.plain = true ∧ ∀ l, Own W l → Got W l (c y) cs
variable {b : (H : Type) → DataW H → Nat}
theorem DecM.map {t : TypeId} {α β : Type} {c : α → List PV} {ok : α → Nat → Prop} {d : β → List PV} {ok' : β → Nat → Prop} (h : DecM b P t c ok) (f : α → β) (hc : ∀ y, d (f y) = c y) (hok : ∀ y m, ok y m → ok' (f y) m) : DecM b P t d ok' := by
  refine ⟨fun {H} enc W fuel cs x hx hs => ?_⟩
  obtain ⟨y, h1, h2, h3⟩ := h.get enc W fuel cs x hx hs
  exact ⟨f y, fun m hm => hok y m (h1 m hm), by rw [hc]; exact h2, fun l hl => by rw [hc]; exact h3 l hl⟩
theorem Dec.msr {t : TypeId} {α : Type} {c : α → List PV} {ok : α → Prop} (h : Dec P t c ok) : DecM b P t c (fun y _ => ok y) := by
  refine ⟨fun {H} enc W fuel cs x hx hs => ?_⟩
  obtain ⟨y, h1, h2, h3⟩ := h.get enc W fuel cs x hx hs
  exact ⟨y, fun _ _ => h1, h2, h3⟩

structure DecFM (b : (H : Type) → DataW H → Nat) (P : Program) (fs : List (TypeId × Nat)) {α : Type} (c : α → List PV) (ok : α → Nat → Prop) : Prop where
  get : ∀ {H : Type} (enc : TypeId × Value → H) (W : World) (fuel : Nat) (cs : List Value) (m : Nat), (∀ x ∈ fs, ∃ y, DataW.trod enc P W 0 (fun _ => true) true fuel x.1 (fcells P cs x) = some y ∧ b H y.1 ≤ m) → (∀ a n k, Value.slice (some a) n k ∈ cs → 0 < W.heap.size) →
    ∃ y, ok y m ∧ (c y).all PV.plain = true ∧ ∀ l, Own W l → Got W l (c y) (fs.flatMap (fcells P cs))
theorem DecFM.nil : DecFM b P [] (fun _ : Unit => []) (fun _ _ => True) := ⟨fun _ _ _ _ _ _ _ => ⟨(), trivial, rfl, fun l hl => Got.nil hl⟩⟩
theorem DecFM.cons {t : TypeId} {o : Nat} {fs : List (TypeId × Nat)} {α β : Type} {c : α → List PV} {ok : α → Nat → Prop} {d : β → List PV} {ok' : β → Nat → Prop} (h : DecM b P t c ok) (h' : DecFM b P fs d ok') : DecFM b P ((t, o) :: fs) (fun p : α × β => c p.1 ++ d p.2) (fun p m => ok p.1 m ∧ ok' p.2 m) := by
  refine ⟨fun {H} enc W fuel cs m hx hs => ?_⟩
  obtain ⟨y, hy, hym⟩ := hx (t, o) List.mem_cons_self
  obtain ⟨a, a1, a2, a3⟩ := h.get enc W fuel _ y hy (fun q n k hm => hs q n k (List.mem_of_mem_drop (List.mem_of_mem_take hm)))
  obtain ⟨bb, b1, b2, b3⟩ := h'.get enc W fuel cs m (fun x hm => hx x (List.mem_cons_of_mem _ hm)) hs
  exact ⟨(a, bb), ⟨a1 m hym, b1⟩, by rw [List.all_append, a2, b2]; rfl, fun l hl => (a3 l hl).append b3⟩
theorem DecM.struct (hb : Msr b) {t : TypeId} {fs : Array Field} {α : Type} {c : α → List PV} {ok : α → Nat → Prop} (ht : P.underlying t = some (.struct fs)) (hs : seqB P (P.cellsOf t) (fs.toList.map fun f => (f.type, f.offset)) 0 = true) (h : DecFM b P (fs.toList.map fun f => (f.type, f.offset)) c ok) : DecM b P t c (fun y m => ∃ m1, m1 + 1 ≤ m ∧ ok y m1) := by
  refine ⟨fun {H} enc W fuel cs x hx hsl => ?_⟩
  cases fuel with
  | zero => simp [DataW.trod] at hx
  | succ fuel =>
    have h' : (if cs.length = P.cellsOf t then (fs.toList.mapM fun f => DataW.trod enc P W 0 (fun _ => true) true fuel f.type ((cs.drop f.offset).take (P.cellsOf f.type))).map fun xs => (DataW.agg (xs.map (·.1)), xs.flatMap (·.2)) else none) = some x := by
      rw [← hx]
      conv => rhs; unfold DataW.trod
      rw [ht]
    split at h'
    · rename_i hl
      simp only [Option.map_eq_some_iff] at h'
      obtain ⟨xs, hxs, hxe⟩ := h'
      obtain ⟨y, h1, h2, h3⟩ := h.get enc W fuel cs ((xs.map (·.1)).map (b H)).sum (fun z hz => by
        obtain ⟨f, hf, rfl⟩ := List.mem_map.1 hz
        obtain ⟨i, hi⟩ := List.getElem?_of_mem hf
        obtain ⟨y, h1, h2⟩ := (mapM_ix hxs).2 i f hi
        exact ⟨y, h1, sum_mem (List.mem_map.2 ⟨y.1, List.mem_map.2 ⟨y, List.mem_of_getElem? h2, rfl⟩, rfl⟩)⟩) hsl
      refine ⟨y, fun m hm => ⟨_, Nat.le_trans (by rw [← hxe]; exact hb.agg _) hm, h1⟩, h2, fun l hl' => ?_⟩
      have := h3 l hl'
      rw [seqB_ok cs _ 0 (by rw [hl]; exact hs), List.drop_zero] at this
      exact this
    · cases h'

theorem DecM.slice (hb : Msr b) {t e : TypeId} {α : Type} {c : α → List PV} {ok : α → Nat → Prop} {sz : Nat} (ht : P.underlying t = some (.slice e)) (hsz : P.cellsOf e = sz) (h0 : 0 < sz) (h : DecM b P e c ok) : DecM b P t (fun L : List α => [.list sz (L.map c) none]) (fun L m => ∃ ms : List Nat, ms.length = L.length ∧ (∀ (i : Nat) (x : α) (k : Nat), L[i]? = some x → ms[i]? = some k → ok x k ∧ 1 ≤ k) ∧ ms.sum + 1 ≤ m) := by
  refine ⟨fun {H} enc W fuel cs x hx hsl => ?_⟩
  cases fuel with
  | zero => simp [DataW.trod] at hx
  | succ fuel =>
    rcases cs with _ | ⟨v, _ | ⟨v2, cs⟩⟩
    · simp [DataW.trod, ht] at hx
    · cases v with
      | slice ad len cap =>
        cases ad with
        | none =>
          have : len = 0 ∧ cap = 0 := by
            rcases len with _ | len <;> rcases cap with _ | cap <;> first | exact ⟨rfl, rfl⟩ | (simp [DataW.trod, ht] at hx)
          obtain ⟨rfl, rfl⟩ := this
          refine ⟨[], fun m hm => ⟨[], rfl, fun i x k h => by simp at h, Nat.le_trans (hb.pos _) hm⟩, rfl, fun l hl => ⟨[], [.slice none 0 0], by rw [List.append_nil]; exact hl, (LR.nil _).cons .sliceNil, L2.cons (.lnil fun k hk => by cases hk) L2.nil⟩⟩
        | some a =>
          have hpos := hsl a len cap List.mem_cons_self
          simp only [DataW.trod, ht, hsz] at hx
          split at hx
          · rename_i hc
            simp only [Option.bind_eq_some_iff, Option.map_eq_some_iff] at hx
            obtain ⟨elems, he, rest, hr, hxe⟩ := hx
            simp only [if_true] at hr
            have hcell : ∀ i : Nat, i = 0 → ∀ ys, W.cells? 0 (a.add (i * sz)) sz = some ys → a.spot = none ∧ a.block < W.heap.size := by
              intro i hi0 ys hy
              subst hi0
              rw [Nat.zero_mul] at hy
              have h1 := (World.cells?_some hy).2
              have h2 := h1.2 0 h0
              rw [List.getElem?_eq_getElem (by rw [h1.1]; exact h0)] at h2
              obtain ⟨b, o, s⟩ := a
              unfold World.cell? at h2
              split at h2
              · rename_i hblk
                split at h2
                · cases h2
                · rename_i hs
                  have hs2 : s = none := by
                    cases s with
                    | none => rfl
                    | some s => exfalso; revert hs; unfold Addr.add; simp
                  subst hs2
                  rw [addr_add, addr_add] at hblk
                  exact ⟨rfl, lt_of_get (by simpa using hblk)⟩
              · cases h2
            obtain ⟨L, h1, h2⟩ := choose_list (Q := fun i (y : α × List Value) => (W.cells? 0 (a.add (i * sz)) sz = some y.2) ∧ (∃ r, elems[i]? = some r ∧ ∀ m, b H r.1 ≤ m → ok y.1 m) ∧ (c y.1).all PV.plain = true ∧ ∀ l, Own W l → Got W l (c y.1) y.2) len (fun i hi => by
              obtain ⟨r, hr, hri⟩ := (mapM_ix he).2 i i (by rw [List.getElem?_range hi])
              simp only [Option.bind_eq_some_iff] at hr
              obtain ⟨ys, h3, h4⟩ := hr
              obtain ⟨y, h5, h6, h7⟩ := h.get enc W fuel ys r h4 (fun _ _ _ _ => hpos)
              exact ⟨(y, ys), h3, ⟨r, hri, h5⟩, h6, h7⟩)
            have hmem : ∀ x ∈ L, ∃ i, L[i]? = some x := fun x hx => List.getElem?_of_mem hx
            have hcs : ∀ x ∈ L, x.2.length = sz := fun x hx => by
              obtain ⟨i, hi⟩ := hmem x hx
              exact (World.cells?_some (h2 i x hi).1).2.1
            have hel : elems.length = len := by rw [(mapM_ix he).1, List.length_range]
            refine ⟨L.map (·.1), fun m hm => ⟨(elems.map (·.1)).map (b H), by simp [hel, h1], fun i x k hx hk => ?_, Nat.le_trans (by rw [← hxe]; exact hb.slice _ _) hm⟩, rfl, fun l hl => ?_⟩
            · rw [List.getElem?_map, Option.map_eq_some_iff] at hx
              obtain ⟨y, hy, rfl⟩ := hx
              obtain ⟨r, hr1, hr2⟩ := (h2 i y hy).2.1
              rw [List.getElem?_map, List.getElem?_map, hr1] at hk
              cases hk
              exact ⟨hr2 _ (Nat.le_refl _), hb.pos _⟩
            · have main := got_slice (W := W) (l := l) (sz := sz) (ty := e) (vs := L.map fun x => c x.1) (cs := L.map (·.2)) (a := a) (cap := cap) h0 hl
                (fun y hy => by
                  obtain ⟨x, hx, rfl⟩ := List.mem_map.1 hy
                  obtain ⟨i, hi⟩ := hmem x hx
                  exact (h2 i x hi).2.2.1)
                (Got.all L fun x hx => by
                  obtain ⟨i, hi⟩ := hmem x hx
                  exact (h2 i x hi).2.2.2)
                (fun y hy => by
                  obtain ⟨x, hx, rfl⟩ := List.mem_map.1 hy
                  obtain ⟨i, hi⟩ := hmem x hx
                  rw [((h2 i x hi).2.2.2 [] Own.nil).len]
                  exact hcs x hx)
                (fun y hy => by
                  obtain ⟨x, hx, rfl⟩ := List.mem_map.1 hy
                  exact hcs x hx)
                (by rw [List.length_map, List.length_map]) (by rw [List.length_map, h1]; exact hc.2.1)
                (fun i y hy j hj => by
                  rw [List.getElem?_map, Option.map_eq_some_iff] at hy
                  obtain ⟨x, hx, rfl⟩ := hy
                  exact (World.cells?_some (h2 i x hx).1).2.2 j hj)
                (fun hcap => by
                  rcases Nat.eq_zero_or_pos len with hl0 | hl0
                  · obtain ⟨r, hr'⟩ := mapM_at' hr 0 (by simp; omega)
                    simp only [Option.bind_eq_some_iff] at hr'
                    obtain ⟨ys, h3, _⟩ := hr'
                    exact hcell _ (by omega) ys h3
                  · obtain ⟨x, hx⟩ := get_of_lt (l := L) (i := 0) (by omega)
                    exact hcell 0 rfl _ (h2 0 x hx).1) hpos
              rw [List.length_map, h1] at main
              show Got W l [.list sz ((L.map (·.1)).map c) none] _
              rw [List.map_map]
              exact main
          · cases hx
      | _ => simp [DataW.trod, ht] at hx
    · simp [DataW.trod, ht] at hx

end
end Go.Eng.Br
